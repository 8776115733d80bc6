/- Whole numbers for the engine: shifts, bits, signs. No condition. -/
import Derived.Test.YtmbonalhbibppaaDoorEng4
import Derived.Laws.Bits64b
namespace Go.Eng
section
variable {P : Program} {E : Sym} {w : World} {K : Value → World → Prop} {d : Option Tmp} {ty : TypeId} {pos : String} {aft : Array Edge} {g : Option (Nat × Bool)}
theorem st_shl {bq : Bool} (hE : EngB bq P E) {t t' : TypeId} {ik yk : IntKind} {a b : Int} {x y : Operand} (hb : 0 ≤ b) (hk : ∀ r : Int, r = ik.wrap (a * 2 ^ (min b.toNat ik.bits)) → K (.int ik r) w) : E.stop ⟨d, .binOp .shl t x y t', ty, pos, aft, g⟩ [.int ik a, .int yk b] w K := by
  refine hE.det (v := .int ik (ik.wrap (a * 2 ^ (min b.toNat ik.bits)))) (fun w1 _ ρ hρ => ?_) (hk _ rfl)
  simp only [opnds, List.map_cons, List.map_nil, List.cons.injEq, and_true] at hρ
  have : ¬ b < 0 := by omega
  simp [execOp, hρ.1, hρ.2, eqGuard, binOp, Op.shift, this]
theorem st_shr {bq : Bool} (hE : EngB bq P E) {t t' : TypeId} {ik yk : IntKind} {a b : Int} {x y : Operand} (hb : 0 ≤ b) (hk : ∀ r : Int, r = a.fdiv (2 ^ (min b.toNat ik.bits)) → K (.int ik r) w) : E.stop ⟨d, .binOp .shr t x y t', ty, pos, aft, g⟩ [.int ik a, .int yk b] w K := by
  refine hE.det (v := .int ik (a.fdiv (2 ^ (min b.toNat ik.bits)))) (fun w1 _ ρ hρ => ?_) (hk _ rfl)
  simp only [opnds, List.map_cons, List.map_nil, List.cons.injEq, and_true] at hρ
  have : ¬ b < 0 := by omega
  simp [execOp, hρ.1, hρ.2, eqGuard, binOp, Op.shift, this]
theorem ofInt_nat {a : Int} (h0 : 0 ≤ a) (h1 : a < 18446744073709551616) : (BitVec.ofInt 64 a).toNat = a.toNat := by
  obtain ⟨n, rfl⟩ := Int.eq_ofNat_of_zero_le h0
  rw [BitVec.ofInt_natCast, BitVec.toNat_ofNat]
  simp only [Int.toNat_natCast]
  exact Nat.mod_eq_of_lt (by omega)
theorem st_or {bq : Bool} (hE : EngB bq P E) {t t' : TypeId} {a b : Int} {x y : Operand} (ha : 0 ≤ a) (ha' : a < 18446744073709551616) (hb : 0 ≤ b) (hb' : b < 18446744073709551616) (hk : ∀ r : Int, r = ((a.toNat ||| b.toNat : Nat) : Int) → K (.int .u64 r) w) : E.stop ⟨d, .binOp .or t x y t', ty, pos, aft, g⟩ [.int .u64 a, .int .u64 b] w K := by
  have e : IntKind.u64.wrap ((BitVec.ofInt 64 a ||| BitVec.ofInt 64 b).toNat : Int) = ((a.toNat ||| b.toNat : Nat) : Int) := by
    rw [BitVec.toNat_or, ofInt_nat ha ha', ofInt_nat hb hb', IntKind.wrap_u64]
    have : a.toNat ||| b.toNat < 2 ^ 64 := Nat.or_lt_two_pow (by omega) (by omega)
    omega
  refine hE.det (v := .int .u64 ((a.toNat ||| b.toNat : Nat) : Int)) (fun w1 _ ρ hρ => ?_) (hk _ rfl)
  simp only [opnds, List.map_cons, List.map_nil, List.cons.injEq, and_true] at hρ
  have h2 : (binOp .or t (.int .u64 a) (.int .u64 b)).run P w1 = .ok (.int .u64 (IntKind.u64.wrap ((BitVec.ofInt 64 a ||| BitVec.ofInt 64 b).toNat : Int))) w1 := rfl
  rw [e] at h2
  simp [execOp, hρ.1, hρ.2, eqGuard, h2]
theorem st_and {bq : Bool} (hE : EngB bq P E) {t t' : TypeId} {a b : Int} {x y : Operand} (ha : 0 ≤ a) (ha' : a < 18446744073709551616) (hb : 0 ≤ b) (hb' : b < 18446744073709551616) (hk : ∀ r : Int, r = ((a.toNat &&& b.toNat : Nat) : Int) → K (.int .u64 r) w) : E.stop ⟨d, .binOp .and t x y t', ty, pos, aft, g⟩ [.int .u64 a, .int .u64 b] w K := by
  have e : IntKind.u64.wrap ((BitVec.ofInt 64 a &&& BitVec.ofInt 64 b).toNat : Int) = ((a.toNat &&& b.toNat : Nat) : Int) := by
    rw [BitVec.toNat_and, ofInt_nat ha ha', ofInt_nat hb hb', IntKind.wrap_u64]
    have : a.toNat &&& b.toNat ≤ a.toNat := Nat.and_le_left
    omega
  refine hE.det (v := .int .u64 ((a.toNat &&& b.toNat : Nat) : Int)) (fun w1 _ ρ hρ => ?_) (hk _ rfl)
  simp only [opnds, List.map_cons, List.map_nil, List.cons.injEq, and_true] at hρ
  have h2 : (binOp .and t (.int .u64 a) (.int .u64 b)).run P w1 = .ok (.int .u64 (IntKind.u64.wrap ((BitVec.ofInt 64 a &&& BitVec.ofInt 64 b).toNat : Int))) w1 := rfl
  rw [e] at h2
  simp [execOp, hρ.1, hρ.2, eqGuard, h2]
theorem st_neg {bq : Bool} (hE : EngB bq P E) {t : TypeId} {ik : IntKind} {a : Int} {x : Operand} (hk : ∀ r : Int, r = ik.wrap (0 - a) → K (.int ik r) w) : E.stop ⟨d, .unOp .neg t x, ty, pos, aft, g⟩ [.int ik a] w K := by
  refine hE.det (v := .int ik (ik.wrap (0 - a))) (fun w1 _ ρ hρ => ?_) (hk _ rfl)
  simp only [opnds, List.map_cons, List.map_nil, List.cons.injEq, and_true] at hρ
  simp [execOp, hρ, Op.unary, Op.intArith]
end
/-! ### Arithmetic -/
theorem u64_in {z : Int} (h0 : 0 ≤ z) (h1 : z < 18446744073709551616) : IntKind.u64.wrap z = z := by rw [IntKind.wrap_u64]; omega
def fits (v : Int) : Prop := -9223372036854775808 ≤ v ∧ v ≤ 9223372036854775807
instance (v : Int) : Decidable (fits v) := by unfold fits; infer_instance
theorem even_or {a b : Nat} (ha : a % 2 = 0) (hb : b < 2) : a ||| b = a + b := by
  have h : a = 2 * (a / 2) := by omega
  have : b = 0 ∨ b = 1 := by omega
  rcases this with rfl | rfl
  · simp
  · apply Nat.eq_of_testBit_eq
    intro i
    rw [Nat.testBit_or]
    cases i with
    | zero => simp [Nat.testBit_zero]; omega
    | succ i =>
      rw [Nat.testBit_succ, Nat.testBit_succ, Nat.testBit_succ]
      have e1 : (a + 1) / 2 = a / 2 := by omega
      rw [e1]; simp
theorem add_ok {a b : Int} (ha : fits a) (hb : fits b) : (IntKind.i64.wrap (a + b) > a ↔ b > 0) ↔ fits (a + b) := by
  unfold fits at *; rw [IntKind.wrap_i64]; omega
theorem sub_ok {a b : Int} (ha : fits a) (hb : fits b) : (IntKind.i64.wrap (a - b) < a ↔ b > 0) ↔ fits (a - b) := by
  unfold fits at *; rw [IntKind.wrap_i64]; omega
theorem tmod_abs {a b : Int} (hb : b ≠ 0) : (a.tmod b).natAbs < b.natAbs := by
  rw [Int.natAbs_tmod]; exact Nat.mod_lt _ (by omega)
theorem mul_ok {a b : Int} (ha : fits a) (hb : fits b) (hb0 : b ≠ 0) :
    (IntKind.i64.wrap ((IntKind.i64.wrap (a * b)).tdiv b) = a ∧ ¬ (b = -1 ∧ a = -9223372036854775808) ∧ ¬ (a = -1 ∧ b = -9223372036854775808)) ↔ fits (a * b) := by
  constructor
  · rintro ⟨h1, h2, h3⟩
    obtain ⟨m, hm⟩ : ∃ m, m = IntKind.i64.wrap (a * b) := ⟨_, rfl⟩
    rw [← hm] at h1
    have hmod := tmod_abs (a := m) hb0
    have hdiv := Int.mul_tdiv_add_tmod m b
    have hmr : fits m := by rw [hm, IntKind.wrap_i64]; unfold fits; omega
    have hmw : ∃ k : Int, m = a * b + k * 18446744073709551616 := by
      rw [IntKind.wrap_i64] at hm
      exact ⟨-((a * b + 9223372036854775808) / 18446744073709551616), by omega⟩
    obtain ⟨k, hk⟩ := hmw
    have hq : m.tdiv b = a := by
      have habs : (m.tdiv b).natAbs ≤ m.natAbs := by rw [Int.natAbs_tdiv]; exact Nat.div_le_self _ _
      rw [IntKind.wrap_i64] at h1
      unfold fits at hmr ha
      by_cases hx : m.tdiv b = 9223372036854775808
      · exfalso
        rw [hx] at h1 hdiv
        have ha1 : a = -9223372036854775808 := by omega
        have : b ≠ -1 := fun e => h2 ⟨e, ha1⟩
        have hm2 : m.natAbs = 9223372036854775808 := by rw [hx] at habs; omega
        have : m = -9223372036854775808 := by omega
        omega
      · omega
    rw [hq] at hdiv
    have e : k * 18446744073709551616 = m.tmod b := by
      have : b * a = a * b := Int.mul_comm b a
      omega
    have hk0 : k = 0 := by unfold fits at hb; omega
    rw [hk0] at hk
    have : m = a * b := by omega
    rw [← this]; exact hmr
  · intro h
    have hw : IntKind.i64.wrap (a * b) = a * b := by unfold fits at h; rw [IntKind.wrap_i64]; omega
    rw [hw, Int.mul_tdiv_cancel _ hb0]
    unfold fits at h ha
    refine ⟨by rw [IntKind.wrap_i64]; omega, ?_, ?_⟩
    · rintro ⟨rfl, rfl⟩; omega
    · rintro ⟨rfl, rfl⟩; omega
theorem div_ok {a b : Int} (ha : fits a) (hb0 : b ≠ 0) : (a ≠ -9223372036854775808 ∨ b ≠ -1) ↔ fits (a.tdiv b) := by
  have habs : (a.tdiv b).natAbs = a.natAbs / b.natAbs := Int.natAbs_tdiv _ _
  unfold fits at *
  constructor
  · intro h
    by_cases h1 : b.natAbs = 1
    · have : b = 1 ∨ b = -1 := by omega
      rcases this with rfl | rfl
      · rw [Int.tdiv_one]; omega
      · rw [Int.tdiv_neg, Int.tdiv_one]; omega
    · have : a.natAbs / b.natAbs ≤ a.natAbs / 2 := Nat.div_le_div_left (by omega) (by omega)
      omega
  · intro h
    by_cases h1 : b = -1
    · subst h1
      rw [Int.tdiv_neg, Int.tdiv_one] at h
      omega
    · exact .inr h1
theorem rem_ok {a b : Int} (hb : fits b) (hb0 : b ≠ 0) : fits (a.tmod b) := by
  have := tmod_abs (a := a) hb0
  unfold fits at *; omega
end Go.Eng
