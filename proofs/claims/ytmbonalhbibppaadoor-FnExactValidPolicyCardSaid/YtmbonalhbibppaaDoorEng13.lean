/- More for the engine: slice literals of structs. No condition. -/
import Derived.Test.YtmbonalhbibppaaDoorEng12
import Derived.Test.YtmbonalhbibppaaDoorEng7
namespace Go.Eng
set_option linter.unusedVariables false
section
variable {P : Program} {Pn : List PanicEntry → World → Prop} {n : Nat} {E : Sym} {w : World} {K : Value → World → Prop} {d : Option Tmp} {ty : TypeId} {pos : String} {aft : Array Edge} {g : Option (Nat × Bool)}
theorem st_litsK (hE : E = real P Pn n) {t e : TypeId} {z : Value} {k b : Nat} (ht : Slc P t e z k b) (hz : z.cells.size = k) (hk0 : 0 < k) {vs : List Value} {m : Nat} {parts : Array (Nat × Operand)} (hm : vs.length = m) (h0 : 0 < m) (hsm : m * k ≤ 16777216) (hp : parts.toList.map (·.1) = List.range m) (h1 : ∀ v ∈ vs, v.cells.size = k) {cs : List Value} (hcs : vs.flatMap (fun v => v.cells.toList) = cs)
    (hk : ∀ A w', Ext w w' → (∀ B, B ≤ w.heap.size → Own B e k w' A m m cs) → K (.slice A m m) w') : E.stop ⟨d, .buildSlice t m parts, ty, pos, aft, g⟩ vs w K := by
  obtain ⟨i0, hi1, hi2, hi3, hi4⟩ := ht.info
  have hlen : cs.length = m * k := by
    rw [← hcs, List.length_flatMap, ← hm]
    have : ∀ l : List Value, (∀ v ∈ l, v.cells.size = k) → (l.map fun v => v.cells.toList.length).sum = l.length * k := by
      intro l
      induction l with
      | nil => simp
      | cons x l ih =>
        intro h
        rw [List.map_cons, List.sum_cons, ih fun v hv => h v (by simp [hv]), List.length_cons, Nat.succ_mul, Array.length_toList, h x (by simp), Nat.add_comm]
    exact this vs h1
  refine st_run hE (v := .slice (some ⟨w.heap.size, 0, none⟩) m m) (w' := w.alloc (.cells ⟨cs⟩ e)) (fun ρ hρ => ?_) (hk _ _ ((Ext.refl w).alloc (Nat.le_refl _) _) fun B hB => World.ownsRow_lit (e := e) (size := k) w ⟨cs⟩ m hB (by unfold maxLen; have : m ≤ m * k := Nat.le_mul_of_pos_right _ hk0; omega) (by simp [hlen]))
  have hρ' : parts.toList.map (fun x => ρ x.2) = vs := by simpa [opnds, Function.comp_def] using hρ
  have hf := run_buildSlice (P := P) w t e m (parts.map fun (i, x) => (i, ρ x)) cs.toArray i0 z ht.u hi1 hi2 (by rw [hi3]; omega) (by rw [hi3]; exact Nat.ne_of_gt (Nat.mul_pos h0 hk0)) (by
    rw [hi3, Array.toList_map]
    rw [show (parts.toList.map fun (x : Nat × Operand) => match x with | (i, x) => (i, ρ x)) = parts.toList.map (fun x => (x.1, ρ x.2)) from rfl, parts_zip hp hρ', ← hcs]
    exact Go.Great.fill_whole hk0 vs _ h1 (by simp [hm]))
  simp only [execOp, Sem.run_bind, hf, Result.andThen_ok]
  rfl
/-- append(s, xs...), and where the row lies then. -/
theorem st_appsG (hE : E = real P Pn n) {t e : TypeId} {z : Value} {b : Nat} (ht : Slc P t e z 1 b) (hz : z.cells = #[z]) {B : Nat} {A A1 : Option Addr} {m c m1 c1 : Nat} {xs vs : List Value} {ao : Array Operand} (h : Own B e 1 w A m c xs) (hn : Cells w A1 vs) (hl : vs.length = m1) (hv : ∀ v ∈ vs, v.oneCell' = true)
    (hB : B ≤ w.heap.size) (hb : (m + m1) * b ≤ 140737488355328) (hm : m + m1 ≤ 9223372036854775807)
    (hk : ∀ A' c' m' w', m' = m + m1 → Wr A w w' → Own B e 1 w' A' m' c' (xs ++ vs) → (Eng.blk A' = Eng.blk A ∨ Eng.blk A' = some w.heap.size) → K (.slice A' m' c') w') : E.stop ⟨d, .call ⟨.builtin .append, ao, #[t, t]⟩, ty, pos, aft, g⟩ [.slice A m c, .slice A1 m1 c1] w K := by
  obtain ⟨i0, h1, h2, h3, h4⟩ := ht.info
  cases A1 with
  | none =>
    have h0 : vs = [] := by
      rcases Nat.eq_zero_or_pos vs.length with h0 | h0
      · exact List.length_eq_zero_iff.1 h0
      · obtain ⟨a, ha⟩ := hn.1 h0; cases ha
    subst h0
    simp only [List.length_nil] at hl
    subst hl
    refine st_run hE (v := .slice A m c) (w' := w) (fun ρ hρ => ?_) (hk _ _ _ _ rfl (Wr.refl _ _) (by simpa using h) (.inl rfl))
    have h3' := map_of (ao := ao) hρ
    simp [execOp, resolve, invoke, builtin, h3', run_append_none ht.u h1 h]
  | some a1 =>
    obtain ⟨v', w', hr, hown, hg, _, hbk⟩ := run_append_own_at (P := P) w B t ty e i0 z 1 b ht.u h1 h2 h3 h4 (by rw [hz]; rfl) (by omega) (.slice A m c) m xs h a1 m1 c1 vs (by omega)
      (fun j u hu => hn.2 a1 rfl j u hu) hv (by unfold maxLen; omega) hb hB
    have hform : ∃ A' c', v' = .slice A' (m + m1) c' := by
      rcases hown.2 with ⟨h5, h6⟩ | ⟨g, cap, cur, h5, _⟩
      · exact ⟨none, 0, by rw [h5, h6]⟩
      · exact ⟨_, _, h5⟩
    obtain ⟨A', c', rfl⟩ := hform
    refine st_run hE (v := .slice A' (m + m1) c') (w' := w') (fun ρ hρ => ?_) (hk _ _ _ _ rfl ?_ hown ?_)
    · have h3' := map_of (ao := ao) hρ
      simp [execOp, resolve, invoke, builtin, h3', hr]
    · cases A <;> exact hg
    · cases A <;> cases A' <;> exact hbk
theorem apart_grow {B e k} {A A' : Option Addr} {x : Addr} {m c : Nat} {xs : List Value} {w : World} (h : Own B e k w (some x) m c xs) (ha : Apart A (some x)) (hg : Eng.blk A' = Eng.blk A ∨ Eng.blk A' = some w.heap.size) : Apart A' (some x) := by
  obtain ⟨gb, rfl, _, hlt⟩ := h.form
  refine .inr fun e => ?_
  have hb : Eng.blk (some (⟨gb, 0, none⟩ : Addr)) = some gb := rfl
  rw [hb] at e
  rcases hg with hg | hg
  · rcases ha with rfl | ha
    · rw [hg] at e; simp [Eng.blk, Value.ownBlock] at e
    · rw [hg] at e; exact ha (by rw [hb]; exact e)
  · rw [hg] at e
    simp at e; omega
end
end Go.Eng
