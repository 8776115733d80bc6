/- What the condition on the three sentinels gives the walks; the sentinels read again. -/
import Derived.Test.YtjaejonnbhdddaaDoorRowK
import Derived.Test.YtjaejonnbhdddaaDoorLErr
import Derived.LaidMore
import Derived.Stop.Joined
import Derived.Stop.LaidTwo
import Derived.RowKitTokens
namespace Go.Proofs.YtjaejonnbhdddaaDoor
open Go.ChangeShapes Go.WideShapes Go.ChangeAt Go.RowKit Go.Eng
set_option maxRecDepth 100000
theorem gZ : Tryd.prog.globalNamed "loop.example/s01308/impl.errZero" = some 2 := by kernel_rfl
theorem gO : Tryd.prog.globalNamed "loop.example/s01308/impl.errOverflow" = some 1 := by kernel_rfl
theorem gW : Tryd.prog.globalNamed "loop.example/s01308/impl.errWide" = some 0 := by kernel_rfl
theorem yZ : (Tryd.prog.globals[2]?).map (·.type) = some 46 := by kernel_rfl
theorem yO : (Tryd.prog.globals[1]?).map (·.type) = some 46 := by kernel_rfl
theorem yW : (Tryd.prog.globals[0]?).map (·.type) = some 46 := by kernel_rfl
theorem star : "*" ++ "errors.errorString" = "*errors.errorString" := by decide
theorem rowE (u : TypeId) (h : Tryd.prog.typeName? 3 u = some "*errors.errorString") : u = 154 :=
  typeName_ptr_named (nm := "errors.errorString") (by rw [star]; kernel_rfl) (by kernel_rfl) (by decide) u (by rw [star]; exact h)
theorem cellsE : Tryd.prog.cellsOf 156 = 1 := by kernel_rfl
theorem cellsS : Tryd.prog.cellsOf 9 = 1 := by kernel_rfl
theorem var_ext {P : Program} {w w' : World} (hx : Ext w w') {n : String} {cs : Array Value} (h : w.var? P n = some cs) : w'.var? P n = some cs := by
  unfold World.var? at h ⊢
  cases hg : P.globalNamed n with
  | none => simp [hg] at h
  | some g =>
    simp only [hg, Option.bind_some] at h ⊢
    have hlt : g < w.heap.size := by
      rcases Nat.lt_or_ge g w.heap.size with h' | h'
      · exact h'
      · simp [Array.getElem?_eq_none h'] at h
    rw [hx.block g hlt]; exact h
def errV (a : Addr) : Value := .iface 154 (.pointer (some a))
theorem errs_of_laid {W : World} {tO tZ tW : List UInt8}
    (h : laidMet Tryd.prog [("loop.example/s01308/impl.errOverflow", .iface "*errors.errorString" (.ptr (.agg [.lit (.string tO)]))), ("loop.example/s01308/impl.errZero", .iface "*errors.errorString" (.ptr (.agg [.lit (.string tZ)]))), ("loop.example/s01308/impl.errWide", .iface "*errors.errorString" (.ptr (.agg [.lit (.string tW)])))] W) :
    ∃ z o v, Errs W z o v ∧ W.var? Tryd.prog "loop.example/s01308/impl.errZero" = some #[errV z] ∧ W.var? Tryd.prog "loop.example/s01308/impl.errOverflow" = some #[errV o] ∧ W.var? Tryd.prog "loop.example/s01308/impl.errWide" = some #[errV v] := by
  obtain ⟨ps, ⟨g0, t0, cs0, f0, p0, q0, hg0, ht0, hv0, hd0, ⟨g1, t1, cs1, f1, p1, q1, hg1, ht1, hv1, hd1, ⟨g2, t2, cs2, f2, p2, q2, hg2, ht2, hv2, hd2, _, e2⟩, e1⟩, e0⟩, hnd, hrows⟩ := h
  obtain rfl := Option.some.inj (gO.symm.trans hg0)
  obtain rfl := Option.some.inj (gZ.symm.trans hg1)
  obtain rfl := Option.some.inj (gW.symm.trans hg2)
  obtain rfl := Option.some.inj (yO.symm.trans ht0)
  obtain rfl := Option.some.inj (yZ.symm.trans ht1)
  obtain rfl := Option.some.inj (yW.symm.trans ht2)
  subst e2
  subst e1
  subst e0
  obtain ⟨l0⟩ := cs0
  obtain ⟨l1⟩ := cs1
  obtain ⟨l2⟩ := cs2
  have ok0 : ∀ u v, l0 = [.iface u v] → Value.okWide Tryd.prog W .any 0 u v := fun u v e => by
    subst e
    exact (hrows 1 0 (by simp [MemPlace.row])).2 u v (by simpa using World.var?_cell hg0 hv0 0)
  have ok1 : ∀ u v, l1 = [.iface u v] → Value.okWide Tryd.prog W .any 0 u v := fun u v e => by
    subst e
    exact (hrows 2 0 (by simp [MemPlace.row])).2 u v (by simpa using World.var?_cell hg1 hv1 0)
  have ok2 : ∀ u v, l2 = [.iface u v] → Value.okWide Tryd.prog W .any 0 u v := fun u v e => by
    subst e
    exact (hrows 0 0 (by simp [MemPlace.row])).2 u v (by simpa using World.var?_cell hg2 hv2 0)
  obtain ⟨a0, s0, rfl, hc0, hs0, hz0, rfl⟩ := errorString_of_trod Tryd.underlying46 rowE Tryd.underlying154 Tryd.underlying156 rfl rfl uStr cellsE cellsS hd0 ok0
  obtain ⟨a1, s1, rfl, hc1, hs1, hz1, rfl⟩ := errorString_of_trod Tryd.underlying46 rowE Tryd.underlying154 Tryd.underlying156 rfl rfl uStr cellsE cellsS hd1 ok1
  obtain ⟨a2, s2, rfl, hc2, hs2, hz2, rfl⟩ := errorString_of_trod Tryd.underlying46 rowE Tryd.underlying154 Tryd.underlying156 rfl rfl uStr cellsE cellsS hd2 ok2
  obtain ⟨c0, t0, hb0⟩ := (hrows a0.block a0.off (by simp [MemPlace.row])).1
  obtain ⟨c1, t1, hb1⟩ := (hrows a1.block a1.off (by simp [MemPlace.row])).1
  obtain ⟨c2, t2, hb2⟩ := (hrows a2.block a2.off (by simp [MemPlace.row])).1
  refine ⟨a1, a0, a2, ⟨by simpa using World.var?_cell hg1 hv1 0, by simpa using World.var?_cell hg0 hv0 0, by simpa using World.var?_cell hg2 hv2 0, ⟨_, _, hb1⟩, ⟨_, _, hb0⟩, ⟨_, _, hb2⟩, ?_, ?_, ?_⟩, hv1, hv0, hv2⟩
  · rintro rfl
    simp [MemPlace.row] at hnd
  · rintro rfl
    simp [MemPlace.row] at hnd
  · rintro rfl
    simp [MemPlace.row] at hnd
theorem fits_of {n : Int} (h : (Lit.int .i64 n).wf = true) : -9223372036854775808 ≤ n ∧ n ≤ 9223372036854775807 := by
  simp only [Lit.wf, Bool.and_eq_true, decide_eq_true_eq] at h; exact h
/-- Three variables that hold interface values, read as tokens. -/
theorem vars3 {H : Type} (enc : TypeId × Value → H) {P : Program} {W : World} {n0 n1 n2 : String} {g0 g1 g2 t0 t1 t2 : TypeId} {ms0 ms1 ms2 : Array (String × TypeId)} {x0 x1 x2 : Value}
    (hg0 : P.globalNamed n0 = some g0) (ht0 : (P.globals[g0]?).map (·.type) = some t0) (hi0 : P.underlying t0 = some (.interface ms0)) (h0 : W.var? P n0 = some #[x0]) (ix0 : IsIface x0)
    (hg1 : P.globalNamed n1 = some g1) (ht1 : (P.globals[g1]?).map (·.type) = some t1) (hi1 : P.underlying t1 = some (.interface ms1)) (h1 : W.var? P n1 = some #[x1]) (ix1 : IsIface x1)
    (hg2 : P.globalNamed n2 = some g2) (ht2 : (P.globals[g2]?).map (·.type) = some t2) (hi2 : P.underlying t2 = some (.interface ms2)) (h2 : W.var? P n2 = some #[x2]) (ix2 : IsIface x2) (sp : Nat → Bool) :
    DataW.TrodVars enc P W sp [n0, n1, n2] [tok enc x0, tok enc x1, tok enc x2] [.cell g0 0, .cell g1 0, .cell g2 0] :=
  ⟨g0, t0, #[x0], 1, [], _, hg0, ht0, h0, trod_held hi0 ix0 0, vars_read2 enc hg1 ht1 hi1 h1 ix1 hg2 ht2 hi2 h2 ix2 sp, rfl⟩
end Go.Proofs.YtjaejonnbhdddaaDoor
