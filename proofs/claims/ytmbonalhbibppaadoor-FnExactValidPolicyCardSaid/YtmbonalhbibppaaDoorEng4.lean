/- More of slices for the engine: a whole slice appended, a slice cut short. No condition. -/
import Derived.Test.YtmbonalhbibppaaDoorEng3
namespace Go.Eng
section
variable {P : Program} {Pn : List PanicEntry → World → Prop} {n : Nat}
variable {E : Sym} {w : World} {K : Value → World → Prop} {d : Option Tmp} {ty : TypeId} {pos : String} {aft : Array Edge} {g : Option (Nat × Bool)}
theorem run_append_none {B : Nat} {t e : TypeId} {i : TypeInfo} {k : Nat} (ht : P.underlying t = some (.slice e)) (hi : P.info? e = some i) {v : Value} {m c1 : Nat} {xs : List Value} (h : w.ownsRow B e k v m xs) :
    (Builtin.append_ #[t, t] ty #[v, .slice none 0 c1]).run P w = .ok v w := by
  rcases h.2 with ⟨rfl, rfl⟩ | ⟨g, cap, cur, rfl, _, _, hnc, _⟩
  · simp [Builtin.append_, run_underlying ht, sizeOf, typeInfo, hi, Builtin.lenOf, Builtin.firstCells]
  · simp [Builtin.append_, run_underlying ht, sizeOf, typeInfo, hi, Builtin.lenOf, Builtin.firstCells, hnc, storeCells]
/-- append(s, xs...). -/
theorem st_apps (hE : E = real P Pn n) {t e : TypeId} {z : Value} {b : Nat} (ht : Slc P t e z 1 b) (hz : z.cells = #[z]) {B : Nat} {A A1 : Option Addr} {m c m1 c1 : Nat} {xs vs : List Value} {ao : Array Operand} (h : Own B e 1 w A m c xs) (hn : Cells w A1 vs) (hl : vs.length = m1) (hv : ∀ v ∈ vs, v.oneCell' = true)
    (hB : B ≤ w.heap.size) (hb : (m + m1) * b ≤ 140737488355328) (hm : m + m1 ≤ 9223372036854775807)
    (hk : ∀ A' c' m' w', m' = m + m1 → Wr A w w' → Own B e 1 w' A' m' c' (xs ++ vs) → K (.slice A' m' c') w') : E.stop ⟨d, .call ⟨.builtin .append, ao, #[t, t]⟩, ty, pos, aft, g⟩ [.slice A m c, .slice A1 m1 c1] w K := by
  obtain ⟨i0, h1, h2, h3, h4⟩ := ht.info
  cases A1 with
  | none =>
    have h0 : vs = [] := by
      rcases Nat.eq_zero_or_pos vs.length with h0 | h0
      · exact List.length_eq_zero_iff.1 h0
      · obtain ⟨a, ha⟩ := hn.1 h0; cases ha
    subst h0
    simp only [List.length_nil] at hl
    subst hl
    refine st_run hE (v := .slice A m c) (w' := w) (fun ρ hρ => ?_) (hk _ _ _ _ rfl (Wr.refl _ _) (by simpa using h))
    have h3' := map_of (ao := ao) hρ
    simp [execOp, resolve, invoke, builtin, h3', run_append_none ht.u h1 h]
  | some a1 =>
    obtain ⟨v', w', hr, hown, hg, _, _⟩ := run_append_own_at (P := P) w B t ty e i0 z 1 b ht.u h1 h2 h3 h4 (by rw [hz]; rfl) (by omega) (.slice A m c) m xs h a1 m1 c1 vs (by omega)
      (fun j u hu => hn.2 a1 rfl j u hu) hv (by unfold maxLen; omega) hb hB
    have hform : ∃ A' c', v' = .slice A' (m + m1) c' := by
      rcases hown.2 with ⟨h5, h6⟩ | ⟨g, cap, cur, h5, _⟩
      · exact ⟨none, 0, by rw [h5, h6]⟩
      · exact ⟨_, _, h5⟩
    obtain ⟨A', c', rfl⟩ := hform
    refine st_run hE (v := .slice A' (m + m1) c') (w' := w') (fun ρ hρ => ?_) (hk _ _ _ _ rfl ?_ hown)
    · have h3' := map_of (ao := ao) hρ
      simp [execOp, resolve, invoke, builtin, h3', hr]
    · cases A <;> exact hg
theorem run_upto {t e : TypeId} {z : Value} {k b : Nat} (ht : Slc P t e z k b) (w : World) {A : Option Addr} {m c hi : Nat} {ik : IntKind} (hhi : hi ≤ c) :
    (Instr.sliceAt t (.slice A m c) none (some (.int ik hi)) none).run P w = .ok (.slice A hi c) w := by
  obtain ⟨i0, h1, h2, h3, h4⟩ := ht.info
  cases A <;> simp [Instr.sliceAt, Instr.slice, underlying, ht.u, Instr.sliceBounds, Instr.sliceBound, asIntOf, sizeOf, typeInfo, h1, hhi, add_zero]
/-- xs[:hi], of a row of one's own. -/
theorem st_upto {bq : Bool} (hE : EngB bq P E) {t e : TypeId} {z : Value} {k b : Nat} (ht : Slc P t e z k b) {B : Nat} {A : Option Addr} {m c hi : Nat} {ik : IntKind} {i : Int} {xs : List Value} {x y : Operand} {w0 : World} (h : Own B e k w0 A m c xs) (hi' : i = hi) (hm : hi ≤ m)
    (hk : Own B e k w0 A hi c (xs.take (hi * k)) → K (.slice A hi c) w) : E.stop ⟨d, .slice t x none (some y) none, ty, pos, aft, g⟩ [.slice A m c, .int ik i] w K := by
  subst hi'
  refine hE.det (v := .slice A hi c) (fun w1 _ ρ hρ => ?_) (hk ?_)
  · simp only [opnds, Option.toList, List.map_cons, List.map_nil, List.append_nil, List.nil_append, List.cons_append, List.cons.injEq, and_true] at hρ
    simp only [execOp, hρ.1, hρ.2, Option.map_some, Option.map_none, Sem.run_bind, run_upto ht w1 (Nat.le_trans hm h.cap)]
    rfl
  · refine ⟨by rw [List.length_take, h.len]; exact Nat.min_eq_left (Nat.mul_le_mul_right _ hm), ?_⟩
    rcases h.2 with ⟨h1, h2⟩ | ⟨gb, cap, cur, h1, h2, h3, h4, h5, h6, h7⟩
    · cases h1
      exact .inl ⟨by rw [show hi = 0 by omega], by omega⟩
    · cases h1
      exact .inr ⟨gb, c, cur, rfl, h2, h3, by omega, h5, h6, by rw [← h7, List.take_take, Nat.min_eq_left (Nat.mul_le_mul_right _ hm)]⟩
end
end Go.Eng
