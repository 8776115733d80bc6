/- More for the engine: what stands above a block of the heap, whatever is written below it. No condition. -/
import Derived.Test.YtmbonalhbibppaaDoorEng11
namespace Go.Eng
set_option linter.unusedVariables false
/-- From w to w' every block at B and above stands; the heap has grown at most. -/
structure Above (B : Nat) (w w' : World) : Prop where
  size : w.heap.size ≤ w'.heap.size
  block : ∀ i, B ≤ i → i < w.heap.size → w'.heap[i]? = w.heap[i]?
theorem Above.refl (B : Nat) (w : World) : Above B w w := ⟨Nat.le_refl _, fun _ _ _ => rfl⟩
theorem Above.trans {B : Nat} {a b c : World} (h : Above B a b) (k : Above B b c) : Above B a c :=
  ⟨Nat.le_trans h.1 k.1, fun i h1 h2 => by rw [k.2 i h1 (Nat.lt_of_lt_of_le h2 h.1), h.2 i h1 h2]⟩
theorem Above.mono {B B' : Nat} {w w' : World} (h : Above B w w') (hB : B ≤ B') : Above B' w w' := ⟨h.1, fun i h1 h2 => h.2 i (Nat.le_trans hB h1) h2⟩
theorem Ext.above {w w' : World} (h : Ext w w') (B : Nat) : Above B w w' := ⟨h.size, fun i _ hi => h.block i hi⟩
theorem Wr.above {B B' e k} {w w' w0 : World} {a : Addr} {m c : Nat} {xs : List Value} (hw : Wr (some a) w w') (h : Own B' e k w0 (some a) m c xs) (hB : w0.heap.size ≤ B) : Above B w w' := by
  obtain ⟨gb, rfl, _, hg⟩ := h.form
  refine ⟨hw.size, fun i h1 h2 => hw.block i h2 ?_⟩
  simp only [Eng.blk, Value.ownBlock]
  intro e
  simp at e
  omega
theorem Above.cell {B : Nat} {w w' : World} (h : Above B w w') {b o : Nat} {x : Option _} (hb : B ≤ b) {v : Value} (hc : w.cell? ⟨b, o, x⟩ = some v) : w'.cell? ⟨b, o, x⟩ = some v := by
  have hlt : b < w.heap.size := by
    rcases Nat.lt_or_ge b w.heap.size with h1 | h1
    · exact h1
    · simp [World.cell?, Array.getElem?_eq_none h1] at hc
  have := h.block b hb hlt
  simp only [World.cell?, this] at hc ⊢
  exact hc
theorem Own.above {B e k} {w w' : World} {A : Option Addr} {m c : Nat} {xs : List Value} (h : Own B e k w A m c xs) (ha : Above B w w') : Own B e k w' A m c xs := by
  refine ⟨h.1, ?_⟩
  rcases h.2 with h1 | ⟨g, cap, cur, h1, h2, h3, h4⟩
  · exact .inl h1
  · exact .inr ⟨g, cap, cur, h1, h2, by rw [ha.block g h2 (Array.getElem?_eq_some_iff.1 h3).1, h3], h4⟩
end Go.Eng
