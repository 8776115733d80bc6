/- More for the engine: tables of words (map[string]bool). No condition. -/
import Derived.Test.YtmbonalhbibppaaDoorEng14
namespace Go.Eng
set_option linter.unusedVariables false
set_option linter.unusedSimpArgs false
/-- A table of words that stands in block bm, behind the package variable in block v; each word is true. -/
structure STab (w : World) (v : Nat) (f : List ByteArray) : Prop where
  ex : ∃ bm es clock, w.cell? ⟨v, 0, none⟩ = some (.map (some bm)) ∧ w.heap[bm]? = some (.map es clock) ∧ (∀ e ∈ es.toList, ∃ k, e.key = .string k ∧ e.val = .bool true ∧ k ∈ f) ∧ ∀ k ∈ f, ∃ e ∈ es.toList, e.key = .string k ∧ e.val = .bool true
theorem STab.ext {w w' : World} {v : Nat} {f : List ByteArray} (h : STab w v f) (hx : Ext w w') : STab w' v f := by
  obtain ⟨bm, es, clock, h1, h2, h3⟩ := h.ex
  exact ⟨bm, es, clock, hx.cell h1, hx.getMap h2, h3⟩
theorem find_str (k : ByteArray) : ∀ (es : List MapEntry) (i : Nat), (∀ e ∈ es, ∃ q, e.key = .string q) → ∃ r, Instr.findNow .string (.string k) es i = some r ∧ ((r = none ∧ ∀ e ∈ es, e.key ≠ .string k) ∨ ∃ j, ∃ e ∈ es, r = some (j, e.val) ∧ e.key = .string k)
  | [], i, _ => ⟨none, rfl, .inl ⟨rfl, by simp⟩⟩
  | e :: es, i, h => by
    obtain ⟨q, h1⟩ := h e (by simp)
    by_cases hq : k = q
    · subst hq
      exact ⟨some (i, e.val), by simp [Instr.findNow, Instr.sameNow, h1, (MapKept.bytes_beq k k).2 rfl], .inr ⟨i, e, by simp, rfl, h1⟩⟩
    · obtain ⟨r, hr, hr2⟩ := find_str k es (i + 1) fun e he => h e (by simp [he])
      have hb : (k == q) = false := by rw [Bool.eq_false_iff]; exact fun h => hq ((MapKept.bytes_beq k q).1 h)
      refine ⟨r, by simp [Instr.findNow, Instr.sameNow, h1, hb, hr], ?_⟩
      rcases hr2 with ⟨h3, h4⟩ | ⟨j, e', he', h3, h4⟩
      · refine .inl ⟨h3, fun e' he' => ?_⟩
        rcases List.mem_cons.1 he' with rfl | he'
        · rw [h1]; simp [Ne.symm hq]
        · exact h4 e' he'
      · exact .inr ⟨j, e', by simp [he'], h3, h4⟩
section
variable {P : Program} {E : Sym} {w : World} {K : Value → World → Prop} {d : Option Tmp} {ty : TypeId} {pos : String} {aft : Array Edge} {g : Option (Nat × Bool)}
/-- m[k], a bool: whether the word is there. -/
theorem st_stab {bq : Bool} (hE : EngB bq P E) {t kt et : TypeId} (ht : P.underlying t = some (.map kt et)) (hkt : P.underlying kt = some .string) (hz : (P.info? et).map (·.zero) = some (some (.bool false))) {bm : Nat} {f : List ByteArray} {es : Array MapEntry} {clock : Nat} (hb : w.heap[bm]? = some (.map es clock))
    (h1 : ∀ e ∈ es.toList, ∃ k, e.key = .string k ∧ e.val = .bool true ∧ k ∈ f) (h2 : ∀ k ∈ f, ∃ e ∈ es.toList, e.key = .string k ∧ e.val = .bool true) {k : ByteArray} {x y : Operand}
    (hk : ∀ b : Bool, (b = true ↔ k ∈ f) → K (.bool b) w) : E.stop ⟨d, .lookup t x y false, ty, pos, aft, g⟩ [.map (some bm), .string k] w K := by
  obtain ⟨i0, hi, hz⟩ := Option.map_eq_some_iff.1 hz
  obtain ⟨r, hr, hr2⟩ := find_str k es.toList 0 fun e he => by obtain ⟨q, h3, _⟩ := h1 e he; exact ⟨q, h3⟩
  have hck0 : ∀ (q : Nat) (w1 : World), (Instr.checkKey es.isEmpty (q + 1) kt (.string k)).run P w1 = .ok () w1 := fun q w1 => by simp [Instr.checkKey, run_underlying hkt]
  have hck : ∀ w1 : World, (Instr.checkKey es.isEmpty 10000 kt (.string k)).run P w1 = .ok () w1 := hck0 9999
  rcases hr2 with ⟨rfl, hno⟩ | ⟨j, e, he, rfl, hke⟩
  · refine hE.det (v := .bool false) (fun w1 hx ρ hρ => ?_) (hk false (by
      simp only [Bool.false_eq_true, false_iff]
      intro q
      obtain ⟨e, he, h3, _⟩ := h2 k q
      exact hno e he h3))
    simp only [opnds, List.map_cons, List.map_nil, List.cons.injEq, and_true] at hρ
    have hb1 : w1.heap[bm]? = some (.map es clock) := hx.getMap hb
    have hg := MapKept.run_getObj_map (P := P) hb1
    simp [execOp, hρ.1, hρ.2, Instr.lookup, run_underlying ht, hg, hck, Instr.findKey, run_underlying hkt, hr, zeroValue, typeInfo, hi, hz]
  · obtain ⟨q, h3, h4, h5⟩ := h1 e he
    rw [hke] at h3
    cases h3
    refine hE.det (v := .bool true) (fun w1 hx ρ hρ => ?_) (hk true (by simp [h5]))
    simp only [opnds, List.map_cons, List.map_nil, List.cons.injEq, and_true] at hρ
    have hb1 : w1.heap[bm]? = some (.map es clock) := hx.getMap hb
    have hg := MapKept.run_getObj_map (P := P) hb1
    simp [execOp, hρ.1, hρ.2, Instr.lookup, run_underlying ht, hg, hck, Instr.findKey, run_underlying hkt, hr, h4]
end
end Go.Eng
