/- errors.Is where the error is nil or one of errors.New's make, the target one of errors.New's make. -/
import Derived.Test.YtjaejonnbhdddaaDoorSt
import Derived.Test.YtjaejonnbhdddaaDoorEng3
import Derived.LaidEql
import Derived.Stop.Asserts
import Derived.Laws.Externs
namespace Go.Proofs.YtjaejonnbhdddaaDoor
open Go.Eng Go.Extern
/-- The row that a pointer leads to stands, unfrozen. -/
def Sent (w : World) (a : Addr) : Prop := ∃ c t, w.heap[a.block]? = some (.cells c t (0, 0))
theorem Sent.ext {w w' : World} {a : Addr} (h : Sent w a) (hx : Ext w w') : Sent w' a := by
  obtain ⟨c, t, h⟩ := h
  exact ⟨c, t, by rw [hx.block _ (Array.getElem?_eq_some_iff.1 h).1, h]⟩
theorem err_ptr : ((Tryd.prog.underlying 154).bind fun d => match d with
    | .pointer te => (Tryd.prog.info? te).map fun j => Nat.beq j.size 0
    | _ => none) = some false := by kernel_rfl
theorem err_cmp : (Tryd.prog.info? 154).map (·.comparable) = some true := by kernel_rfl
theorem uErr : ∃ ms, Tryd.prog.underlying 46 = some (.interface ms) := ⟨_, Tryd.underlying46⟩
section
variable {E : Sym} {w : World} {K : Value → World → Prop} {d : Option Tmp} {ty : TypeId} {pos : String} {aft : Array Edge} {g : Option (Nat × Bool)}
theorem st_err_nil1 {bq : Bool} (hE : EngB bq Tryd.prog E) {t' : TypeId} {a : Addr} {x : Operand} {v : Value} (hk : K (.bool false) w) : E.stop ⟨d, .binOp .eql 46 x (.const v) t', ty, pos, aft, g⟩ [.iface 154 (.pointer (some a)), .nilIface] w K := by
  obtain ⟨ms, hu⟩ := uErr
  refine hE.det (v := .bool false) (fun w1 hs ρ hρ => ?_) hk
  simp only [opnds, List.map_cons, List.map_nil, List.cons.injEq, and_true] at hρ
  have h : ∀ d : Nat, (Op.equalIn (d + 1) 46 (.iface 154 (.pointer (some a))) .nilIface).run Tryd.prog w1 = .ok false w1 := fun d => by simp [Op.equalIn, run_underlying hu]
  have h2 : (binOp .eql 46 (.iface 154 (.pointer (some a))) .nilIface).run Tryd.prog w1 = .ok (.bool false) w1 := by
    simp only [binOp]; simp [Op.equal, Op.maxDepth, h 9999]
  simp [execOp, hρ.1, hρ.2, eqGuard, h2]
theorem st_err_nil2 {bq : Bool} (hE : EngB bq Tryd.prog E) {t' : TypeId} {x : Operand} {v : Value} (hk : K (.bool true) w) : E.stop ⟨d, .binOp .eql 46 x (.const v) t', ty, pos, aft, g⟩ [.nilIface, .nilIface] w K := by
  obtain ⟨ms, hu⟩ := uErr
  refine hE.det (v := .bool true) (fun w1 hs ρ hρ => ?_) hk
  simp only [opnds, List.map_cons, List.map_nil, List.cons.injEq, and_true] at hρ
  have h : ∀ d : Nat, (Op.equalIn (d + 1) 46 .nilIface .nilIface).run Tryd.prog w1 = .ok true w1 := fun d => by simp [Op.equalIn, run_underlying hu]
  have h2 : (binOp .eql 46 .nilIface .nilIface).run Tryd.prog w1 = .ok (.bool true) w1 := by
    simp only [binOp]; simp [Op.equal, Op.maxDepth, h 9999]
  simp [execOp, hρ.1, hρ.2, eqGuard, h2]
theorem st_err_nil3 {bq : Bool} (hE : EngB bq Tryd.prog E) {t' : TypeId} {x y : Operand} {a : Addr} (hk : K (.bool false) w) : E.stop ⟨d, .binOp .eql 46 x y t', ty, pos, aft, g⟩ [.nilIface, .iface 154 (.pointer (some a))] w K := by
  obtain ⟨ms, hu⟩ := uErr
  refine hE.det (v := .bool false) (fun w1 hs ρ hρ => ?_) hk
  simp only [opnds, List.map_cons, List.map_nil, List.cons.injEq, and_true] at hρ
  simp [execOp, hρ.1, hρ.2, eqGuard, run_eql_iface_nil_left w1 154 (.pointer (some a)) hu]
theorem st_err_eql {bq : Bool} (hE : EngB bq Tryd.prog E) {t' : TypeId} {x y : Operand} {a b : Addr} (ha : Sent w a) (hb : Sent w b) (hk : ∀ v : Bool, (v = true ↔ a = b) → K (.bool v) w) : E.stop ⟨d, .binOp .eql 46 x y t', ty, pos, aft, g⟩ [.iface 154 (.pointer (some a)), .iface 154 (.pointer (some b))] w K := by
  obtain ⟨ms, hu⟩ := uErr
  obtain ⟨dd, h1, h2⟩ := Option.bind_eq_some_iff.1 err_ptr
  obtain ⟨i, hi, hc⟩ := Option.map_eq_some_iff.1 err_cmp
  split at h2
  · rename_i te
    obtain ⟨j, hj, hz⟩ := Option.map_eq_some_iff.1 h2
    have hz : ¬ j.size = 0 := by intro e; rw [e] at hz; simp at hz
    by_cases e : a = b
    · subst e
      refine hE.det (v := .bool true) (fun w1 hs ρ hρ => ?_) (hk _ (by simp))
      simp only [opnds, List.map_cons, List.map_nil, List.cons.injEq, and_true] at hρ
      simp [execOp, hρ.1, hρ.2, eqGuard, run_eql_iface_ptr_same w1 a hu h1 hi hc hj]
    · refine hE.det (v := .bool false) (fun w1 hs ρ hρ => ?_) (hk _ (by simp [e]))
      simp only [opnds, List.map_cons, List.map_nil, List.cons.injEq, and_true] at hρ
      obtain ⟨ca, ta, ha⟩ := ha.ext hs
      obtain ⟨cb, tb, hb⟩ := hb.ext hs
      simp [execOp, hρ.1, hρ.2, eqGuard, run_eql_iface_ptr_other w1 hu h1 hi hc hj hz e ha hb]
  · cases h2
/-- An assertion that fails, and says so. -/
theorem st_lacks {bq : Bool} (hE : EngB bq Tryd.prog E) {xt t : TypeId} {x : Operand} {v : Value} (hr : ∀ w, (Instr.typeAssert (.iface 154 v) xt t true).run Tryd.prog w = .ok (.tuple #[.nilIface, .bool false]) w) (hk : K (.tuple ⟨[.nilIface, .bool false]⟩) w) : E.stop ⟨d, .typeAssert x xt t true, ty, pos, aft, g⟩ [.iface 154 v] w K := by
  refine hE.det (v := .tuple #[.nilIface, .bool false]) (fun w1 hs ρ hρ => ?_) hk
  simp only [opnds, List.map_cons, List.map_nil, List.cons.injEq, and_true] at hρ
  simp [execOp, hρ, hr w1]
end
theorem noIs (v : Value) (xT : TypeId) (w : World) : (Instr.typeAssert (.iface 154 v) xT 117 true).run Tryd.prog w = .ok (.tuple #[.nilIface, .bool false]) w := run_typeAssert_lacksB Tryd.underlying117 (by kernel_rfl) (by kernel_rfl) v xT w
theorem noUnwrap (v : Value) (xT : TypeId) (w : World) : (Instr.typeAssert (.iface 154 v) xT 120 true).run Tryd.prog w = .ok (.tuple #[.nilIface, .bool false]) w := run_typeAssert_lacksB Tryd.underlying120 (by kernel_rfl) (by kernel_rfl) v xT w
theorem noUnwraps (v : Value) (xT : TypeId) (w : World) : (Instr.typeAssert (.iface 154 v) xT 122 true).run Tryd.prog w = .ok (.tuple #[.nilIface, .bool false]) w := run_typeAssert_lacksB Tryd.underlying122 (by kernel_rfl) (by kernel_rfl) v xT w
theorem is_q {w : World} {a b : Addr} (ha : Sent w a) (hb : Sent w b) : QB Tryd.prog 80 [.iface 154 (.pointer (some a)), .iface 154 (.pointer (some b)), .bool true] w (a = b) := by
  refine QB.intro (cs := []) Tryd.func80 (by kernel_rfl) fun w hx0 w1 hs E R hE hr hR => ?_
  have ha := ha.ext (hx0.trans hs.ext)
  have hb := hb.ext (hx0.trans hs.ext)
  conv => cbv
  refine loop_rule hr (fun (_ : Unit) w' => w' = w1) (fun _ => [(0, .iface 154 (.pointer (some a))), (1, .iface 154 (.pointer (some b))), (2, .bool true)]) (fun _ => 0) ()
    (by simp [Fits, lk]) rfl ?_
  rintro I hI ⟨⟩ w' rfl
  conv => cbv
  refine st_err_eql hE ha hb fun v hv => ?_
  cases v with
  | true =>
    conv => cbv
    exact hR _ _ hs hv
  | false =>
    conv => cbv
    refine st_lacks hE (noIs _ _) ?_
    conv => cbv
    refine st_lacks hE (noUnwrap _ _) ?_
    conv => cbv
    refine st_lacks hE (noUnwraps _ _) ?_
    conv => cbv
    exact hR _ _ hs hv
theorem rT (v : Value) (w : World) : (Extern.ReflectliteType.typeOf #[.iface 154 v]).run Tryd.prog w = .ok (.iface 115 (.agg #[.pointer (some ⟨Tryd.prog.globals.size, 154, none⟩)])) w := by kernel_rfl
theorem rC (w : World) : ((Extern.ReflectliteType.method fun t => do Go.Extern.Rtype.noPackHeld "Comparable" t; pure (.bool (← typeInfo t).comparable)) #[.agg #[.pointer (some ⟨Tryd.prog.globals.size, 154, none⟩)]]).run Tryd.prog w = .ok (.bool true) w := by kernel_rfl
theorem rM (v : Value) (w : World) : (Go.method (Tryd.prog.types.size + Made.depth) 115 v "Comparable").run Tryd.prog w = .ok (164, v) w := by kernel_rfl
/-- The type of an error of errors.New's make can be compared. -/
theorem typ : ∃ hv, (∀ v w, (callFunc 79 #[.iface 154 v]).run Tryd.prog w = .ok (.value (.iface 115 hv)) w) ∧
    ∀ w, (callMethod (.iface 115 hv) "Comparable" #[]).run Tryd.prog w = .ok (.value (.bool true)) w := by
  have h8 := @run_callFunc_extern Tryd.prog 79 _ Extern.ReflectliteType.typeOf Tryd.func79 (by kernel_rfl) (by kernel_rfl) (by kernel_rfl) (by kernel_rfl)
  have h32 := @run_callFunc_extern Tryd.prog 164 _ (Extern.ReflectliteType.method fun t => do Go.Extern.Rtype.noPackHeld "Comparable" t; pure (.bool (← typeInfo t).comparable)) Tryd.func164 (by kernel_rfl) (by kernel_rfl) (by kernel_rfl) (by kernel_rfl)
  refine ⟨.agg #[.pointer (some ⟨Tryd.prog.globals.size, 154, none⟩)], fun v w => ?_, fun w => ?_⟩
  · rw [h8, rT]; rfl
  · have hm := rM (.agg #[.pointer (some ⟨Tryd.prog.globals.size, 154, none⟩)]) w
    simp only [callMethod, Sem.run_bind, run_program, Result.andThen_ok, hm]
    show (callFunc _ (#[_] ++ #[])).run _ _ = _
    rw [h32]
    have hc := rC w
    erw [hc]; rfl
section
variable {E : Sym} {w : World} {K : Value → World → Prop} {d : Option Tmp} {ty : TypeId} {pos : String} {aft : Array Edge} {g : Option (Nat × Bool)}
theorem st_typeof {bq : Bool} (hE : EngB bq Tryd.prog E) {hv : Value} (h : ∀ v w, (callFunc 79 #[.iface 154 v]).run Tryd.prog w = .ok (.value (.iface 115 hv)) w) {fo : Operand} {ao : Array Operand} {at_ : Array TypeId} {v : Value} (hk : K (.iface 115 hv) w) :
    E.stop ⟨d, .call ⟨.value fo, ao, at_⟩, ty, pos, aft, g⟩ [.func (.func 79) ⟨[]⟩ ⟨[]⟩, .iface 154 v] w K := by
  refine hE.det (v := .iface 115 hv) (fun w1 hs ρ hρ => ?_) hk
  simp only [opnds, List.cons_append, List.nil_append, List.map_cons, List.cons.injEq] at hρ
  have h3 := map_of (ao := ao) hρ.2
  simp [execOp, resolve, hρ.1, h3, Deferred.ofValue, invoke, h]
theorem st_comp {bq : Bool} (hE : EngB bq Tryd.prog E) {hv : Value} (h : ∀ w, (callMethod (.iface 115 hv) "Comparable" #[]).run Tryd.prog w = .ok (.value (.bool true)) w) {x : Operand} {at_ : Array TypeId} (hk : K (.bool true) w) :
    E.stop ⟨d, .call ⟨.invoke x "Comparable", ⟨[]⟩, at_⟩, ty, pos, aft, g⟩ [.iface 115 hv] w K := by
  refine hE.det (v := .bool true) (fun w1 hs ρ hρ => ?_) hk
  simp only [opnds, List.append_nil, List.map_cons, List.map_nil, List.cons.injEq, and_true] at hρ
  simp [execOp, resolve, hρ, invoke, h]
end
theorem Is_q {w : World} {a b : Addr} (ha : Sent w a) (hb : Sent w b) : QB Tryd.prog 59 [.iface 154 (.pointer (some a)), .iface 154 (.pointer (some b))] w (a = b) := by
  refine QB.intro (cs := []) Tryd.func59 (by kernel_rfl) fun w hx0 w1 hs E R hE hr hR => ?_
  have ha := ha.ext (hx0.trans hs.ext)
  have hb := hb.ext (hx0.trans hs.ext)
  obtain ⟨hv, k1, k2⟩ := typ
  conv => cbv
  refine st_err_nil1 hE ?_
  conv => cbv
  refine st_err_nil1 hE ?_
  conv => cbv
  refine st_typeof hE k1 ?_
  conv => cbv
  refine st_comp hE k2 ?_
  conv => cbv
  refine st_qb hE (is_q ha hb) fun v hv w2 hs2 => ?_
  conv => cbv
  exact hR _ _ (hs.trans hs2) hv
theorem IsNil_q {w : World} {b : Addr} : QB Tryd.prog 59 [.nilIface, .iface 154 (.pointer (some b))] w False := by
  refine QB.intro (cs := []) Tryd.func59 (by kernel_rfl) fun w hx0 w1 hs E R hE hr hR => ?_
  conv => cbv
  refine st_err_nil2 hE ?_
  conv => cbv
  refine st_err_nil3 hE ?_
  conv => cbv
  exact hR _ _ hs (by simp)
/-- What the three sentinels of the program hold. -/
structure Errs (w : World) (z o v : Addr) : Prop where
  cz : w.cell? ⟨2, 0, none⟩ = some (.iface 154 (.pointer (some z)))
  co : w.cell? ⟨1, 0, none⟩ = some (.iface 154 (.pointer (some o)))
  cv : w.cell? ⟨0, 0, none⟩ = some (.iface 154 (.pointer (some v)))
  sz : Sent w z
  so : Sent w o
  sv : Sent w v
  zo : z ≠ o
  zv : z ≠ v
  ov : o ≠ v
theorem Errs.ext {w w' : World} {z o v : Addr} (h : Errs w z o v) (hx : Ext w w') : Errs w' z o v :=
  ⟨hx.cell h.cz, hx.cell h.co, hx.cell h.cv, h.sz.ext hx, h.so.ext hx, h.sv.ext hx, h.zo, h.zv, h.ov⟩
theorem cErr : Cel Tryd.prog 46 := by
  obtain ⟨ms, h⟩ := uErr
  exact ⟨_, h, by simp, by simp⟩
theorem code_nil {w : World} {z o v : Addr} (h : Errs w z o v) : QF Tryd.prog 27 [.nilIface] w (.int .i64 0) := by
  refine QF.intro (cs := []) Tryd.func27 (by kernel_rfl) fun w hx0 w1 hs E R hE hr hR => ?_
  have h := h.ext (hx0.trans hs.ext)
  conv => cbv
  refine st_load hE cErr h.co ?_
  conv => cbv
  refine st_qb hE IsNil_q fun b hb w2 hs2 => ?_
  obtain rfl : b = false := by simpa using hb
  have h := h.ext hs2.ext
  replace hs := hs.trans hs2
  conv => cbv
  refine st_load hE cErr h.cz ?_
  conv => cbv
  refine st_qb hE IsNil_q fun b hb w3 hs2 => ?_
  obtain rfl : b = false := by simpa using hb
  have h := h.ext hs2.ext
  replace hs := hs.trans hs2
  conv => cbv
  refine st_load hE cErr h.cv ?_
  conv => cbv
  refine st_qb hE IsNil_q fun b hb w4 hs2 => ?_
  obtain rfl : b = false := by simpa using hb
  conv => cbv
  rw [hR]; exact ⟨rfl, hs.trans hs2⟩
theorem code_o {w : World} {z o v : Addr} (h : Errs w z o v) : QF Tryd.prog 27 [.iface 154 (.pointer (some o))] w (.int .i64 1) := by
  refine QF.intro (cs := []) Tryd.func27 (by kernel_rfl) fun w hx0 w1 hs E R hE hr hR => ?_
  have h := h.ext (hx0.trans hs.ext)
  conv => cbv
  refine st_load hE cErr h.co ?_
  conv => cbv
  refine st_qb hE (Is_q h.so h.so) fun b hb w2 hs2 => ?_
  obtain rfl : b = true := hb.2 rfl
  conv => cbv
  rw [hR]; exact ⟨rfl, hs.trans hs2⟩
theorem code_z {w : World} {z o v : Addr} (h : Errs w z o v) : QF Tryd.prog 27 [.iface 154 (.pointer (some z))] w (.int .i64 2) := by
  refine QF.intro (cs := []) Tryd.func27 (by kernel_rfl) fun w hx0 w1 hs E R hE hr hR => ?_
  have h := h.ext (hx0.trans hs.ext)
  conv => cbv
  refine st_load hE cErr h.co ?_
  conv => cbv
  refine st_qb hE (Is_q h.sz h.so) fun b hb w2 hs2 => ?_
  obtain rfl : b = false := by rw [← Bool.not_eq_true, hb]; exact h.zo
  have h := h.ext hs2.ext
  replace hs := hs.trans hs2
  conv => cbv
  refine st_load hE cErr h.cz ?_
  conv => cbv
  refine st_qb hE (Is_q h.sz h.sz) fun b hb w3 hs2 => ?_
  obtain rfl : b = true := hb.2 rfl
  conv => cbv
  rw [hR]; exact ⟨rfl, hs.trans hs2⟩
theorem code_v {w : World} {z o v : Addr} (h : Errs w z o v) : QF Tryd.prog 27 [.iface 154 (.pointer (some v))] w (.int .i64 3) := by
  refine QF.intro (cs := []) Tryd.func27 (by kernel_rfl) fun w hx0 w1 hs E R hE hr hR => ?_
  have h := h.ext (hx0.trans hs.ext)
  conv => cbv
  refine st_load hE cErr h.co ?_
  conv => cbv
  refine st_qb hE (Is_q h.sv h.so) fun b hb w2 hs2 => ?_
  obtain rfl : b = false := by rw [← Bool.not_eq_true, hb]; exact h.ov.symm
  have h := h.ext hs2.ext
  replace hs := hs.trans hs2
  conv => cbv
  refine st_load hE cErr h.cz ?_
  conv => cbv
  refine st_qb hE (Is_q h.sv h.sz) fun b hb w3 hs2 => ?_
  obtain rfl : b = false := by rw [← Bool.not_eq_true, hb]; exact h.zv.symm
  have h := h.ext hs2.ext
  replace hs := hs.trans hs2
  conv => cbv
  refine st_load hE cErr h.cv ?_
  conv => cbv
  refine st_qb hE (Is_q h.sv h.sv) fun b hb w4 hs2 => ?_
  obtain rfl : b = true := hb.2 rfl
  conv => cbv
  rw [hR]; exact ⟨rfl, hs.trans hs2⟩
end Go.Proofs.YtjaejonnbhdddaaDoor
