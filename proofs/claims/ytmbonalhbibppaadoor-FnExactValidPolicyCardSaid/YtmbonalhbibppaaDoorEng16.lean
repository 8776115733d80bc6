/- More for the engine: interface values made, methods called through them. No condition. -/
import Derived.Test.YtmbonalhbibppaaDoorEng15
import Derived.Test.YtmbonalhbibppaaDoorEng10
namespace Go.Eng
set_option linter.unusedVariables false
set_option linter.unusedSimpArgs false
section
variable {P : Program} {Pn : List PanicEntry → World → Prop} {n : Nat} {E : Sym} {w : World} {K : Value → World → Prop} {d : Option Tmp} {ty : TypeId} {pos : String} {aft : Array Edge} {g : Option (Nat × Bool)}
theorem st_mk {bq : Bool} (hE : EngB bq P E) {t : TypeId} (ht : ∃ u, P.underlying t = some u ∧ ∀ ms, u ≠ .interface ms) {x : Operand} {v : Value} (hk : K (.iface t v) w) : E.stop ⟨d, .makeInterface t x, ty, pos, aft, g⟩ [v] w K := by
  obtain ⟨u, h1, h2⟩ := ht
  refine hE.det (v := .iface t v) (fun w1 _ ρ hρ => ?_) hk
  simp only [opnds, List.map_cons, List.map_nil, List.cons.injEq, and_true] at hρ
  have : (Instr.makeInterface t v).run P w1 = .ok (.iface t v) w1 := by
    unfold Instr.makeInterface
    simp only [underlying, Sem.run_bind, run_program, Result.andThen_ok, h1, Sem.run_pure]
  simp [execOp, hρ, this]
theorem run_inv {ρ : Operand → Value} {ro : Operand} {name : String} {ao : Array Operand} {at_ : Array TypeId} {recv : Value} {args l : List Value} {f : FuncId} (hv : (opnds (.call ⟨.invoke ro name, ao, at_⟩)).map ρ = recv :: args)
    (hc : ∀ w, (callMethod recv name args.toArray).run P w = .ok (.enter f l.toArray) w) (w : World) :
    (execOp ρ ⟨d, .call ⟨.invoke ro name, ao, at_⟩, ty, pos, aft, g⟩).run P w = .ok (.enter f l.toArray) w := by
  have hv : ρ ro = recv ∧ ao.toList.map ρ = args := by simpa [opnds] using hv
  obtain ⟨h1, h2⟩ := hv
  have h3 : ao.map ρ = args.toArray := by rw [← h2, ← Array.toList_map, Array.toArray_toList]
  have e : (#[recv] ++ args.toArray).extract 1 (#[recv] ++ args.toArray).size = args.toArray := by
    apply Array.ext'
    simp
  simp only [execOp, Sem.run_bind, resolve, h1, h3, Sem.run_pure, Result.andThen_ok, invoke, e]
  have e0 : (#[recv] ++ args.toArray)[0]? = some recv := by simp
  simp only [e0, hc]
theorem st_iq (hE : Eng P E) {ro : Operand} {name : String} {ao : Array Operand} {at_ : Array TypeId} {recv : Value} {args l : List Value} {f : FuncId} {v : Value} (hc : ∀ w, (callMethod recv name args.toArray).run P w = .ok (.enter f l.toArray) w)
    (h : QF P f l w v) (hk : ∀ w', Same w w' → K v w') : E.stop ⟨d, .call ⟨.invoke ro name, ao, at_⟩, ty, pos, aft, g⟩ (recv :: args) w K := by
  obtain ⟨⟨fn, hf, he⟩, hcc⟩ := h
  refine hE.quiet rfl (v := v) (fun w1 hs ρ hρ => ?_) hk
  rw [run_inv hρ hc]
  exact ⟨rfl, hcc w1 hs⟩
theorem st_if (hE : E = real P Pn n) {ro : Operand} {name : String} {ao : Array Operand} {at_ : Array TypeId} {recv : Value} {args l : List Value} {f : FuncId} {R : Value → World → Prop} (hc : ∀ w, (callMethod recv name args.toArray).run P w = .ok (.enter f l.toArray) w)
    (h : FC P f l w R) (hk : ∀ v w', Ext w w' → R v w' → K v w') : E.stop ⟨d, .call ⟨.invoke ro name, ao, at_⟩, ty, pos, aft, g⟩ (recv :: args) w K := by
  obtain ⟨⟨fn, hf, he⟩, hcc⟩ := h
  subst hE
  intro ρ hρ
  rw [run_inv hρ hc]
  exact hcc.mono fun e w' ⟨v, he, hx, hr⟩ => by subst he; exact hk _ _ hx hr
/-- append(s, xs...), of elements of k cells, and where the row lies then. -/
theorem st_appsKG (hE : E = real P Pn n) {t e : TypeId} {z : Value} {k b : Nat} (ht : Slc P t e z k b) (hz : z.cells.size = k) (hk0 : 0 < k) {B : Nat} {A A1 : Option Addr} {m c m1 c1 : Nat} {xs vs : List Value} {ao : Array Operand} (h : Own B e k w A m c xs) (hn : Cells w A1 vs) (hl : vs.length = m1 * k) (hm1 : 0 < m1) (hv : ∀ v ∈ vs, v.oneCell' = true)
    (hB : B ≤ w.heap.size) (hb : (m + m1) * b ≤ 140737488355328) (hm : m + m1 ≤ 9223372036854775807)
    (hk : ∀ A' c' m' w', m' = m + m1 → Wr A w w' → Own B e k w' A' m' c' (xs ++ vs) → (Eng.blk A' = Eng.blk A ∨ Eng.blk A' = some w.heap.size) → K (.slice A' m' c') w') : E.stop ⟨d, .call ⟨.builtin .append, ao, #[t, t]⟩, ty, pos, aft, g⟩ [.slice A m c, .slice A1 m1 c1] w K := by
  obtain ⟨i0, h1, h2, h3, h4⟩ := ht.info
  cases A1 with
  | none =>
    obtain ⟨a, ha⟩ := hn.1 (by rw [hl]; exact Nat.mul_pos hm1 hk0)
    cases ha
  | some a1 =>
    obtain ⟨v', w', hr, hown, hg, _, hbk⟩ := run_append_own_at (P := P) w B t ty e i0 z k b ht.u h1 h2 h3 h4 hz hk0 (.slice A m c) m xs h a1 m1 c1 vs hl
      (fun j u hu => hn.2 a1 rfl j u hu) hv (by unfold maxLen; omega) hb hB
    have hform : ∃ A' c', v' = .slice A' (m + m1) c' := by
      rcases hown.2 with ⟨h5, h6⟩ | ⟨g, cap, cur, h5, _⟩
      · exact ⟨none, 0, by rw [h5, h6]⟩
      · exact ⟨_, _, h5⟩
    obtain ⟨A', c', rfl⟩ := hform
    refine st_run hE (v := .slice A' (m + m1) c') (w' := w') (fun ρ hρ => ?_) (hk _ _ _ _ rfl ?_ hown ?_)
    · have h3' := map_of (ao := ao) hρ
      simp [execOp, resolve, invoke, builtin, h3', hr]
    · cases A <;> exact hg
    · cases A <;> cases A' <;> exact hbk
/-- xs[lo:], of elements of k cells: what is read. -/
theorem st_from {bq : Bool} (hE : EngB bq P E) {t e : TypeId} {z : Value} {k b : Nat} (ht : Slc P t e z k b) {A : Option Addr} {m c lo : Nat} {ik : IntKind} {i : Int} {xs : List Value} {x y : Operand} {w0 : World} (h : Cells w0 A xs) (hl : xs.length = m * k) (hmc : m ≤ c) (hi : i = lo) (hlo : lo ≤ m)
    (hk : ∀ A' c', Cells w0 A' (xs.drop (lo * k)) → m - lo ≤ c' → K (.slice A' (m - lo) c') w) : E.stop ⟨d, .slice t x (some y) none none, ty, pos, aft, g⟩ [.slice A m c, .int ik i] w K := by
  subst hi
  refine hE.det (v := .slice (if c = lo then A else A.map (·.add (lo * k))) (m - lo) (c - lo)) (fun w1 _ ρ hρ => ?_) (hk _ _ ?_ (by omega))
  · simp only [opnds, Option.toList, List.map_cons, List.map_nil, List.append_nil, List.cons.injEq, and_true] at hρ
    simp only [execOp, hρ.1, hρ.2, Option.map_some, Option.map_none, Sem.run_bind, run_from ht w1 hlo]
    rfl
  · exact h.from hl hlo (fun h1 h2 => by omega)
end
end Go.Eng
