/- More for the engine: slice literals. No condition. -/
import Derived.Test.YtmbonalhbibppaaDoorEng6
import Derived.Great.BuildSlice
namespace Go.Eng
set_option linter.unusedVariables false
theorem parts_zip {ρ : Operand → Value} {vs : List Value} {m : Nat} {ps : List (Nat × Operand)} (hp : ps.map (·.1) = List.range m) (hρ : ps.map (fun x => ρ x.2) = vs) :
    ps.map (fun x => (x.1, ρ x.2)) = (vs.zipIdx 0).map fun x => (x.2, x.1) := by
  apply List.ext_getElem?
  intro k
  have a := congrArg (·[k]?) hp
  have b := congrArg (·[k]?) hρ
  simp only [List.getElem?_map, List.getElem?_zipIdx] at a b ⊢
  cases h : ps[k]? with
  | none => rw [h] at b; simp only [Option.map_none] at b; rw [← b]; rfl
  | some x =>
    rw [h] at a b
    simp only [Option.map_some] at a b
    have : x.1 = k := by
      have hk := (List.getElem?_eq_some_iff.1 a.symm)
      obtain ⟨h1, h2⟩ := hk
      simpa using h2.symm
    rw [← b]; simp [this]
section
variable {P : Program} {Pn : List PanicEntry → World → Prop} {n : Nat} {E : Sym} {w : World} {K : Value → World → Prop} {d : Option Tmp} {ty : TypeId} {pos : String} {aft : Array Edge} {g : Option (Nat × Bool)}
theorem st_lits (hE : E = real P Pn n) {t e : TypeId} {z : Value} {b : Nat} (ht : Slc P t e z 1 b) (hz : z.cells = #[z]) {vs : List Value} {m : Nat} {parts : Array (Nat × Operand)} (hm : vs.length = m) (h0 : 0 < m) (hsm : m ≤ 16777216) (hp : parts.toList.map (·.1) = List.range m) (h1 : ∀ v ∈ vs, v.cells = #[v])
    (hk : ∀ A w', Ext w w' → (∀ B, B ≤ w.heap.size → Own B e 1 w' A m m vs) → K (.slice A m m) w') : E.stop ⟨d, .buildSlice t m parts, ty, pos, aft, g⟩ vs w K := by
  obtain ⟨i0, hi1, hi2, hi3, hi4⟩ := ht.info
  refine st_run hE (v := .slice (some ⟨w.heap.size, 0, none⟩) m m) (w' := w.alloc (.cells ⟨vs⟩ e)) (fun ρ hρ => ?_) (hk _ _ ((Ext.refl w).alloc (Nat.le_refl _) _) fun B hB => World.ownsRow_lit (e := e) (size := 1) w ⟨vs⟩ m hB (by unfold maxLen; omega) (by simp [hm]))
  have hρ' : parts.toList.map (fun x => ρ x.2) = vs := by simpa [opnds, Function.comp_def] using hρ
  have hf := run_buildSlice (P := P) w t e m (parts.map fun (i, x) => (i, ρ x)) vs.toArray i0 z ht.u hi1 hi2 (by rw [hi3]; omega) (by rw [hi3]; omega) (by
    rw [hi3, Array.toList_map]
    rw [show (parts.toList.map fun (x : Nat × Operand) => match x with | (i, x) => (i, ρ x)) = parts.toList.map (fun x => (x.1, ρ x.2)) from rfl, parts_zip hp hρ']
    exact Go.Great.fill_flat vs _ h1 (by simp [hm]))
  simp only [execOp, Sem.run_bind, hf, Result.andThen_ok]
  rfl
end
end Go.Eng
