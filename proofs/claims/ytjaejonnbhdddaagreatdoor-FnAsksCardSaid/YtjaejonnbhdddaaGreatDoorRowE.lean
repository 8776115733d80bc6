/- What the condition on the three sentinels gives the walks; the sentinels read again. -/
import Derived.Test.YtjaejonnbhdddaaGreatDoorRowK
import Derived.Test.YtjaejonnbhdddaaGreatDoorLErr
import Derived.LaidMore
import Derived.Stop.Joined
import Derived.Stop.LaidTwo
import Derived.RowKitTokens
namespace Go.Proofs.YtjaejonnbhdddaaGreatDoor
open Go.ChangeShapes Go.WideShapes Go.ChangeAt Go.RowKit Go.Eng
set_option maxRecDepth 100000
theorem star : "*" ++ "errors.errorString" = "*errors.errorString" := by decide
theorem rowE (u : TypeId) (h : Tryz.prog.typeName? 3 u = some "*errors.errorString") : u = 112 :=
  typeName_ptr_named (nm := "errors.errorString") (by rw [star]; kernel_rfl) (by kernel_rfl) (by decide) u (by rw [star]; exact h)
theorem cellsE : Tryz.prog.cellsOf 114 = 1 := by kernel_rfl
theorem cellsS : Tryz.prog.cellsOf 9 = 1 := by kernel_rfl
theorem var_ext {P : Program} {w w' : World} (hx : Ext w w') {n : String} {cs : Array Value} (h : w.var? P n = some cs) : w'.var? P n = some cs := by
  unfold World.var? at h ⊢
  cases hg : P.globalNamed n with
  | none => simp [hg] at h
  | some g =>
    simp only [hg, Option.bind_some] at h ⊢
    have hlt : g < w.heap.size := by
      rcases Nat.lt_or_ge g w.heap.size with h' | h'
      · exact h'
      · simp [Array.getElem?_eq_none h'] at h
    rw [hx.block g hlt]; exact h
def errV (a : Addr) : Value := .iface 112 (.pointer (some a))
theorem fits_of {n : Int} (h : (Lit.int .i64 n).wf = true) : -9223372036854775808 ≤ n ∧ n ≤ 9223372036854775807 := by
  simp only [Lit.wf, Bool.and_eq_true, decide_eq_true_eq] at h; exact h
/-- Three variables that hold interface values, read as tokens. -/
theorem vars3 {H : Type} (enc : TypeId × Value → H) {P : Program} {W : World} {n0 n1 n2 : String} {g0 g1 g2 t0 t1 t2 : TypeId} {ms0 ms1 ms2 : Array (String × TypeId)} {x0 x1 x2 : Value}
    (hg0 : P.globalNamed n0 = some g0) (ht0 : (P.globals[g0]?).map (·.type) = some t0) (hi0 : P.underlying t0 = some (.interface ms0)) (h0 : W.var? P n0 = some #[x0]) (ix0 : IsIface x0)
    (hg1 : P.globalNamed n1 = some g1) (ht1 : (P.globals[g1]?).map (·.type) = some t1) (hi1 : P.underlying t1 = some (.interface ms1)) (h1 : W.var? P n1 = some #[x1]) (ix1 : IsIface x1)
    (hg2 : P.globalNamed n2 = some g2) (ht2 : (P.globals[g2]?).map (·.type) = some t2) (hi2 : P.underlying t2 = some (.interface ms2)) (h2 : W.var? P n2 = some #[x2]) (ix2 : IsIface x2) (sp : Nat → Bool) :
    DataW.TrodVars enc P W sp [n0, n1, n2] [tok enc x0, tok enc x1, tok enc x2] [.cell g0 0, .cell g1 0, .cell g2 0] :=
  ⟨g0, t0, #[x0], 1, [], _, hg0, ht0, h0, trod_held hi0 ix0 0, vars_read2 enc hg1 ht1 hi1 h1 ix1 hg2 ht2 hi2 h2 ix2 sp, rfl⟩
end Go.Proofs.YtjaejonnbhdddaaGreatDoor
