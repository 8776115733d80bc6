/- More for the engine: nil checks, bits of signed numbers. No condition. -/
import Derived.Test.YtmbonalhbibppaaDoorEng5
import Derived.Test.YtmbonalhbibppaaDoorEng3
namespace Go.Eng
section
variable {P : Program} {E : Sym} {w : World} {K : Value → World → Prop} {d : Option Tmp} {ty : TypeId} {pos : String} {aft : Array Edge} {g : Option (Nat × Bool)}
theorem st_nil {bq : Bool} (hE : EngB bq P E) {a : Addr} {x : Operand} (hk : K (.pointer (some a)) w) : E.stop ⟨d, .nilCheck x, ty, pos, aft, g⟩ [.pointer (some a)] w K := by
  refine hE.det (v := .pointer (some a)) (fun w1 _ ρ hρ => ?_) hk
  simp only [opnds, List.map_cons, List.map_nil, List.cons.injEq, and_true] at hρ
  simp [execOp, hρ]
theorem wrap_fits (z : Int) : fits (IntKind.i64.wrap z) := by unfold fits; rw [IntKind.wrap_i64]; omega
theorem st_ori {bq : Bool} (hE : EngB bq P E) {t t' : TypeId} {a b : Int} {x y : Operand} (hk : ∀ r : Int, fits r → K (.int .i64 r) w) : E.stop ⟨d, .binOp .or t x y t', ty, pos, aft, g⟩ [.int .i64 a, .int .i64 b] w K := by
  refine hE.det (v := .int .i64 (IntKind.i64.wrap ((BitVec.ofInt 64 a ||| BitVec.ofInt 64 b).toNat : Int))) (fun w1 _ ρ hρ => ?_) (hk _ (wrap_fits _))
  simp only [opnds, List.map_cons, List.map_nil, List.cons.injEq, and_true] at hρ
  have h2 : (binOp .or t (.int .i64 a) (.int .i64 b)).run P w1 = .ok (.int .i64 (IntKind.i64.wrap ((BitVec.ofInt 64 a ||| BitVec.ofInt 64 b).toNat : Int))) w1 := rfl
  simp [execOp, hρ.1, hρ.2, eqGuard, h2]
theorem arR_fits (op : BinOp) (a b : Int) : fits (arR op .i64 a b) := by
  unfold arR; split <;> exact wrap_fits _
/-- A slice of bytes, of which z are read. -/
structure Byts (w : World) (A : Option Addr) (n c : Nat) (zs : List Int) : Prop where
  len : zs.length = n
  le : n ≤ 9223372036854775807
  cap : n ≤ c
  cells : Cells w A (zs.map (Value.int .u8))
  rng : ∀ z ∈ zs, 0 ≤ z ∧ z ≤ 255
theorem Byts.ext {w w' : World} {A : Option Addr} {n c : Nat} {zs : List Int} (h : Byts w A n c zs) (hx : Ext w w') : Byts w' A n c zs := ⟨h.1, h.2, h.3, h.4.ext hx, h.5⟩
theorem st_bt {bq : Bool} (hE : EngB bq P E) {t e : TypeId} {z0 : Value} {b : Nat} (ht : Slc P t e z0 1 b) {A : Option Addr} {m c : Nat} {ik : IntKind} {i : Int} {x y : Operand} {zs : List Int} (h : Byts w A m c zs)
    (h0 : 0 ≤ i) (h1 : i < m) (hK : ∀ p z, zs[i.toNat]? = some z → 0 ≤ z → z ≤ 255 → w.cell? p = some (.int .u8 z) → K (.pointer (some p)) w) : E.stop ⟨d, .indexAddr t x y, ty, pos, aft, g⟩ [.slice A m c, .int ik i] w K := by
  have hl := h.len
  refine st_elem hE ht h.cells (by simp [hl]) h0 h1 fun p v hv hp => ?_
  simp only [List.getElem?_map, Option.map_eq_some_iff] at hv
  obtain ⟨z, hz, rfl⟩ := hv
  exact hK p z hz (h.rng z (List.mem_of_getElem? hz)).1 (h.rng z (List.mem_of_getElem? hz)).2 hp
end
end Go.Eng
