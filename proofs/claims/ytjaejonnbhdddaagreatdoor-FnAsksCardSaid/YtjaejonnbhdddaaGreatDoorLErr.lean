/- errors.Is where the error is nil or one of errors.New's make, the target one of errors.New's make. -/
import Derived.Test.YtjaejonnbhdddaaGreatDoorSt
import Derived.Test.YtjaejonnbhdddaaGreatDoorEng3
import Derived.LaidEql
import Derived.Stop.Asserts
import Derived.Laws.Externs
namespace Go.Proofs.YtjaejonnbhdddaaGreatDoor
open Go.Eng Go.Extern
/-- The row that a pointer leads to stands, unfrozen. -/
def Sent (w : World) (a : Addr) : Prop := ∃ c t, w.heap[a.block]? = some (.cells c t (0, 0))
theorem Sent.ext {w w' : World} {a : Addr} (h : Sent w a) (hx : Ext w w') : Sent w' a := by
  obtain ⟨c, t, h⟩ := h
  exact ⟨c, t, by rw [hx.block _ (Array.getElem?_eq_some_iff.1 h).1, h]⟩
theorem err_ptr : ((Tryz.prog.underlying 112).bind fun d => match d with
    | .pointer te => (Tryz.prog.info? te).map fun j => Nat.beq j.size 0
    | _ => none) = some false := by kernel_rfl
theorem err_cmp : (Tryz.prog.info? 112).map (·.comparable) = some true := by kernel_rfl
theorem uErr : ∃ ms, Tryz.prog.underlying 49 = some (.interface ms) := ⟨_, Tryz.underlying49⟩
section
variable {E : Sym} {w : World} {K : Value → World → Prop} {d : Option Tmp} {ty : TypeId} {pos : String} {aft : Array Edge} {g : Option (Nat × Bool)}
theorem st_err_nil1 {bq : Bool} (hE : EngB bq Tryz.prog E) {t' : TypeId} {a : Addr} {x : Operand} {v : Value} (hk : K (.bool false) w) : E.stop ⟨d, .binOp .eql 49 x (.const v) t', ty, pos, aft, g⟩ [.iface 112 (.pointer (some a)), .nilIface] w K := by
  obtain ⟨ms, hu⟩ := uErr
  refine hE.det (v := .bool false) (fun w1 hs ρ hρ => ?_) hk
  simp only [opnds, List.map_cons, List.map_nil, List.cons.injEq, and_true] at hρ
  have h : ∀ d : Nat, (Op.equalIn (d + 1) 49 (.iface 112 (.pointer (some a))) .nilIface).run Tryz.prog w1 = .ok false w1 := fun d => by simp [Op.equalIn, run_underlying hu]
  have h2 : (binOp .eql 49 (.iface 112 (.pointer (some a))) .nilIface).run Tryz.prog w1 = .ok (.bool false) w1 := by
    simp only [binOp]; simp [Op.equal, Op.maxDepth, h 9999]
  simp [execOp, hρ.1, hρ.2, eqGuard, h2]
theorem st_err_nil2 {bq : Bool} (hE : EngB bq Tryz.prog E) {t' : TypeId} {x : Operand} {v : Value} (hk : K (.bool true) w) : E.stop ⟨d, .binOp .eql 49 x (.const v) t', ty, pos, aft, g⟩ [.nilIface, .nilIface] w K := by
  obtain ⟨ms, hu⟩ := uErr
  refine hE.det (v := .bool true) (fun w1 hs ρ hρ => ?_) hk
  simp only [opnds, List.map_cons, List.map_nil, List.cons.injEq, and_true] at hρ
  have h : ∀ d : Nat, (Op.equalIn (d + 1) 49 .nilIface .nilIface).run Tryz.prog w1 = .ok true w1 := fun d => by simp [Op.equalIn, run_underlying hu]
  have h2 : (binOp .eql 49 .nilIface .nilIface).run Tryz.prog w1 = .ok (.bool true) w1 := by
    simp only [binOp]; simp [Op.equal, Op.maxDepth, h 9999]
  simp [execOp, hρ.1, hρ.2, eqGuard, h2]
theorem st_err_nil3 {bq : Bool} (hE : EngB bq Tryz.prog E) {t' : TypeId} {x y : Operand} {a : Addr} (hk : K (.bool false) w) : E.stop ⟨d, .binOp .eql 49 x y t', ty, pos, aft, g⟩ [.nilIface, .iface 112 (.pointer (some a))] w K := by
  obtain ⟨ms, hu⟩ := uErr
  refine hE.det (v := .bool false) (fun w1 hs ρ hρ => ?_) hk
  simp only [opnds, List.map_cons, List.map_nil, List.cons.injEq, and_true] at hρ
  simp [execOp, hρ.1, hρ.2, eqGuard, run_eql_iface_nil_left w1 112 (.pointer (some a)) hu]
theorem st_err_eql {bq : Bool} (hE : EngB bq Tryz.prog E) {t' : TypeId} {x y : Operand} {a b : Addr} (ha : Sent w a) (hb : Sent w b) (hk : ∀ v : Bool, (v = true ↔ a = b) → K (.bool v) w) : E.stop ⟨d, .binOp .eql 49 x y t', ty, pos, aft, g⟩ [.iface 112 (.pointer (some a)), .iface 112 (.pointer (some b))] w K := by
  obtain ⟨ms, hu⟩ := uErr
  obtain ⟨dd, h1, h2⟩ := Option.bind_eq_some_iff.1 err_ptr
  obtain ⟨i, hi, hc⟩ := Option.map_eq_some_iff.1 err_cmp
  split at h2
  · rename_i te
    obtain ⟨j, hj, hz⟩ := Option.map_eq_some_iff.1 h2
    have hz : ¬ j.size = 0 := by intro e; rw [e] at hz; simp at hz
    by_cases e : a = b
    · subst e
      refine hE.det (v := .bool true) (fun w1 hs ρ hρ => ?_) (hk _ (by simp))
      simp only [opnds, List.map_cons, List.map_nil, List.cons.injEq, and_true] at hρ
      simp [execOp, hρ.1, hρ.2, eqGuard, run_eql_iface_ptr_same w1 a hu h1 hi hc hj]
    · refine hE.det (v := .bool false) (fun w1 hs ρ hρ => ?_) (hk _ (by simp [e]))
      simp only [opnds, List.map_cons, List.map_nil, List.cons.injEq, and_true] at hρ
      obtain ⟨ca, ta, ha⟩ := ha.ext hs
      obtain ⟨cb, tb, hb⟩ := hb.ext hs
      simp [execOp, hρ.1, hρ.2, eqGuard, run_eql_iface_ptr_other w1 hu h1 hi hc hj hz e ha hb]
  · cases h2
/-- An assertion that fails, and says so. -/
theorem st_lacks {bq : Bool} (hE : EngB bq Tryz.prog E) {xt t : TypeId} {x : Operand} {v : Value} (hr : ∀ w, (Instr.typeAssert (.iface 112 v) xt t true).run Tryz.prog w = .ok (.tuple #[.nilIface, .bool false]) w) (hk : K (.tuple ⟨[.nilIface, .bool false]⟩) w) : E.stop ⟨d, .typeAssert x xt t true, ty, pos, aft, g⟩ [.iface 112 v] w K := by
  refine hE.det (v := .tuple #[.nilIface, .bool false]) (fun w1 hs ρ hρ => ?_) hk
  simp only [opnds, List.map_cons, List.map_nil, List.cons.injEq, and_true] at hρ
  simp [execOp, hρ, hr w1]
end
theorem rC (w : World) : ((Extern.ReflectliteType.method fun t => do Go.Extern.Rtype.noPackHeld "Comparable" t; pure (.bool (← typeInfo t).comparable)) #[.agg #[.pointer (some ⟨Tryz.prog.globals.size, 112, none⟩)]]).run Tryz.prog w = .ok (.bool true) w := by kernel_rfl
section
variable {E : Sym} {w : World} {K : Value → World → Prop} {d : Option Tmp} {ty : TypeId} {pos : String} {aft : Array Edge} {g : Option (Nat × Bool)}
end
end Go.Proofs.YtjaejonnbhdddaaGreatDoor
