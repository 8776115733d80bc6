/- More for the engine: slices whose elements are structs. No condition. -/
import Derived.Test.YtmbonalhbibppaaDoorEng8
import Derived.Test.YtmbonalhbibppaaDoorEng4
namespace Go.Eng
set_option linter.unusedVariables false
section
variable {P : Program} {Pn : List PanicEntry → World → Prop} {n : Nat} {E : Sym} {w : World} {K : Value → World → Prop} {d : Option Tmp} {ty : TypeId} {pos : String} {aft : Array Edge} {g : Option (Nat × Bool)}
/-- The variadic's box of a struct. -/
theorem st_oneS (hE : E = real P Pn n) {t e : TypeId} {z : Value} {k b : Nat} (ht : Slc P t e z k b) (hz : z.cells.size = k) (hk0 : 0 < k) (hk1 : k ≤ 1000) {cs : List Value} (hc : cs.length = k) {x : Operand}
    (hk : ∀ A w', Ext w w' → Cells w' A cs → K (.slice A 1 1) w') : E.stop ⟨d, .buildSlice t 1 #[(0, x)], ty, pos, aft, g⟩ [.agg ⟨cs⟩] w K := by
  obtain ⟨i0, h1, h2, h3, h4⟩ := ht.info
  refine st_run hE (v := .slice (some ⟨w.heap.size, 0, none⟩) 1 1) (w' := w.alloc (.cells ⟨cs⟩ e)) (fun ρ hρ => ?_) (hk _ _ ((Ext.refl w).alloc (Nat.le_refl _) _) ?_)
  · simp only [opnds, List.map_cons, List.map_nil, List.cons.injEq, and_true] at hρ
    have hf := run_buildSlice (P := P) w t e 1 #[(0, ρ x)] ⟨cs⟩ i0 z ht.u h1 h2 (by rw [h3]; omega) (by rw [h3]; omega) (by
      rw [h3]
      have := Go.Great.fill_whole hk0 [Value.agg ⟨cs⟩] ((Array.range (1 * k)).map (z.cells[· % z.cells.size]!)) (by intro v hv; rw [List.mem_singleton.1 hv]; simpa [Value.cells] using hc) (by simp)
      rw [hρ]
      have e1 : ([Value.agg ⟨cs⟩].flatMap fun v => v.cells.toList).toArray = ⟨cs⟩ := by simp [Value.cells]
      rw [e1] at this
      exact this)
    simp only [execOp, Sem.run_bind]
    rw [show (Instr.buildSlice t 1 ((#[(0, x)] : Array (Nat × Operand)).map fun (p : Nat × Operand) => match p with | (i, x) => (i, ρ x))) = Instr.buildSlice t 1 #[(0, ρ x)] by simp, hf]
    rfl
  · refine ⟨fun _ => ⟨_, rfl⟩, fun a ha j u hu => ?_⟩
    cases ha
    have := World.ownsRow_lit (e := e) (size := k) (base := w.heap.size) w ⟨cs⟩ 1 (Nat.le_refl _) (by unfold maxLen; omega) (by simp [hc])
    have ho : Own w.heap.size e k (w.alloc (.cells ⟨cs⟩ e)) (some ⟨w.heap.size, 0, none⟩) 1 1 cs := this
    exact ho.at j u hu
/-- append(s, xs...), of elements of k cells. -/
theorem st_appsK (hE : E = real P Pn n) {t e : TypeId} {z : Value} {k b : Nat} (ht : Slc P t e z k b) (hz : z.cells.size = k) (hk0 : 0 < k) {B : Nat} {A A1 : Option Addr} {m c m1 c1 : Nat} {xs vs : List Value} {ao : Array Operand} (h : Own B e k w A m c xs) (hn : Cells w A1 vs) (hl : vs.length = m1 * k) (hm1 : 0 < m1) (hv : ∀ v ∈ vs, v.oneCell' = true)
    (hB : B ≤ w.heap.size) (hb : (m + m1) * b ≤ 140737488355328) (hm : m + m1 ≤ 9223372036854775807)
    (hk : ∀ A' c' m' w', m' = m + m1 → Wr A w w' → Own B e k w' A' m' c' (xs ++ vs) → K (.slice A' m' c') w') : E.stop ⟨d, .call ⟨.builtin .append, ao, #[t, t]⟩, ty, pos, aft, g⟩ [.slice A m c, .slice A1 m1 c1] w K := by
  obtain ⟨i0, h1, h2, h3, h4⟩ := ht.info
  cases A1 with
  | none =>
    obtain ⟨a, ha⟩ := hn.1 (by rw [hl]; exact Nat.mul_pos hm1 hk0)
    cases ha
  | some a1 =>
    obtain ⟨v', w', hr, hown, hg, _, _⟩ := run_append_own_at (P := P) w B t ty e i0 z k b ht.u h1 h2 h3 h4 hz hk0 (.slice A m c) m xs h a1 m1 c1 vs hl
      (fun j u hu => hn.2 a1 rfl j u hu) hv (by unfold maxLen; omega) hb hB
    have hform : ∃ A' c', v' = .slice A' (m + m1) c' := by
      rcases hown.2 with ⟨h5, h6⟩ | ⟨g, cap, cur, h5, _⟩
      · exact ⟨none, 0, by rw [h5, h6]⟩
      · exact ⟨_, _, h5⟩
    obtain ⟨A', c', rfl⟩ := hform
    refine st_run hE (v := .slice A' (m + m1) c') (w' := w') (fun ρ hρ => ?_) (hk _ _ _ _ rfl ?_ hown)
    · have h3' := map_of (ao := ao) hρ
      simp [execOp, resolve, invoke, builtin, h3', hr]
    · cases A <;> exact hg
end
end Go.Eng
