/- Texts that the law FnExactRun leans on, part 11 of 11: contracts of the functions that it reaches and plain lemmas. Each holds under the conditions that it states. -/
import Derived.LaidMore
import Derived.Stop.Joined
import Derived.Stop.LaidTwo
import Derived.RowKitTokens
import Derived.Test.YtkedmcebngachaaGreatDoorMFnExactRun10
set_option maxHeartbeats 16000000
set_option linter.unusedVariables false
set_option linter.unusedSimpArgs false
namespace Go.Proofs.YtkedmcebngachaaGreatDoor
open Go.ChangeShapes Go.WideShapes Go.ChangeAt Go.RowKit Go.Eng
set_option maxRecDepth 100000
theorem gZ : Tryz.prog.globalNamed "loop.example/s01308/impl.errZero" = some 1 := by kernel_rfl
theorem gO : Tryz.prog.globalNamed "loop.example/s01308/impl.errOverflow" = some 0 := by kernel_rfl
theorem gW : Tryz.prog.globalNamed "loop.example/s01308/impl.errWide" = some 2 := by kernel_rfl
theorem yZ : (Tryz.prog.globals[1]?).map (·.type) = some 134 := by kernel_rfl
theorem yO : (Tryz.prog.globals[0]?).map (·.type) = some 134 := by kernel_rfl
theorem yW : (Tryz.prog.globals[2]?).map (·.type) = some 134 := by kernel_rfl
theorem star : "*" ++ "errors.errorString" = "*errors.errorString" := by decide
theorem rowE (u : TypeId) (h : Tryz.prog.typeName? 3 u = some "*errors.errorString") : u = 391 :=
 typeName_ptr_named (nm := "errors.errorString") (by rw [star]; kernel_rfl) (by kernel_rfl) (by decide) u (by rw [star]; exact h)
theorem cellsE : Tryz.prog.cellsOf 415 = 1 := by kernel_rfl
theorem cellsS : Tryz.prog.cellsOf 9 = 1 := by kernel_rfl
def errV (a : Addr) : Value := .iface 391 (.pointer (some a))
theorem errs_of_laid {W : World} {tO tZ tW : List UInt8}
  (h : laidMet Tryz.prog [("loop.example/s01308/impl.errOverflow", .iface "*errors.errorString" (.ptr (.agg [.lit (.string tO)]))), ("loop.example/s01308/impl.errZero", .iface "*errors.errorString" (.ptr (.agg [.lit (.string tZ)]))), ("loop.example/s01308/impl.errWide", .iface "*errors.errorString" (.ptr (.agg [.lit (.string tW)])))] W) :
  ∃ z o v, Errs W z o v ∧ W.var? Tryz.prog "loop.example/s01308/impl.errZero" = some #[errV z] ∧ W.var? Tryz.prog "loop.example/s01308/impl.errOverflow" = some #[errV o] ∧ W.var? Tryz.prog "loop.example/s01308/impl.errWide" = some #[errV v] := by
 obtain ⟨ps, ⟨g0, t0, cs0, f0, p0, q0, hg0, ht0, hv0, hd0, ⟨g1, t1, cs1, f1, p1, q1, hg1, ht1, hv1, hd1, ⟨g2, t2, cs2, f2, p2, q2, hg2, ht2, hv2, hd2, _, e2⟩, e1⟩, e0⟩, hnd, hrows⟩ := h
 obtain rfl := Option.some.inj (gO.symm.trans hg0)
 obtain rfl := Option.some.inj (gZ.symm.trans hg1)
 obtain rfl := Option.some.inj (gW.symm.trans hg2)
 obtain rfl := Option.some.inj (yO.symm.trans ht0)
 obtain rfl := Option.some.inj (yZ.symm.trans ht1)
 obtain rfl := Option.some.inj (yW.symm.trans ht2)
 subst e2
 subst e1
 subst e0
 obtain ⟨l0⟩ := cs0
 obtain ⟨l1⟩ := cs1
 obtain ⟨l2⟩ := cs2
 have ok0 : ∀ u v, l0 = [.iface u v] → Value.okWide Tryz.prog W .any 0 u v := fun u v e => by
  subst e
  exact (hrows 0 0 (by simp [MemPlace.row])).2 u v (by simpa using World.var?_cell hg0 hv0 0)
 have ok1 : ∀ u v, l1 = [.iface u v] → Value.okWide Tryz.prog W .any 0 u v := fun u v e => by
  subst e
  exact (hrows 1 0 (by simp [MemPlace.row])).2 u v (by simpa using World.var?_cell hg1 hv1 0)
 have ok2 : ∀ u v, l2 = [.iface u v] → Value.okWide Tryz.prog W .any 0 u v := fun u v e => by
  subst e
  exact (hrows 2 0 (by simp [MemPlace.row])).2 u v (by simpa using World.var?_cell hg2 hv2 0)
 obtain ⟨a0, s0, rfl, hc0, hs0, hz0, rfl⟩ := errorString_of_trod Tryz.underlying134 rowE Tryz.underlying391 Tryz.underlying415 rfl rfl uStr cellsE cellsS hd0 ok0
 obtain ⟨a1, s1, rfl, hc1, hs1, hz1, rfl⟩ := errorString_of_trod Tryz.underlying134 rowE Tryz.underlying391 Tryz.underlying415 rfl rfl uStr cellsE cellsS hd1 ok1
 obtain ⟨a2, s2, rfl, hc2, hs2, hz2, rfl⟩ := errorString_of_trod Tryz.underlying134 rowE Tryz.underlying391 Tryz.underlying415 rfl rfl uStr cellsE cellsS hd2 ok2
 obtain ⟨c0, t0, hb0⟩ := (hrows a0.block a0.off (by simp [MemPlace.row])).1
 obtain ⟨c1, t1, hb1⟩ := (hrows a1.block a1.off (by simp [MemPlace.row])).1
 obtain ⟨c2, t2, hb2⟩ := (hrows a2.block a2.off (by simp [MemPlace.row])).1
 refine ⟨a1, a0, a2, ⟨by simpa using World.var?_cell hg1 hv1 0, by simpa using World.var?_cell hg0 hv0 0, by simpa using World.var?_cell hg2 hv2 0, ⟨_, _, hb1⟩, ⟨_, _, hb0⟩, ⟨_, _, hb2⟩, ?_, ?_, ?_⟩, hv1, hv0, hv2⟩
 ·rintro rfl
  simp [MemPlace.row] at hnd
 ·rintro rfl
  simp [MemPlace.row] at hnd
 ·rintro rfl
  simp [MemPlace.row] at hnd
theorem laidVars_take {P : Program} {w : World} {r : List (String × DataW Unit)} : ∀ {l : List (String × DataW Unit)} {ps : List MemPlace}, DataW.LaidVars P w (l ++ r) ps → ∃ qs rs, DataW.LaidVars P w l qs ∧ ps = qs ++ rs
 | [], ps, h => ⟨[], ps, rfl, rfl⟩
 | (n, d) :: l, ps, h => by
  obtain ⟨g, t, cs, fuel, p, q, h1, h2, h3, h4, h5, e⟩ := h
  obtain ⟨qs, rs, k1, k2⟩ := laidVars_take h5
  exact ⟨_, rs, ⟨g, t, cs, fuel, p, qs, h1, h2, h3, h4, k1, rfl⟩, by rw [e, k2]; simp⟩
theorem laidMet_take {P : Program} {w : World} {l r : List (String × DataW Unit)} (h : laidMet P (l ++ r) w) : laidMet P l w := by
 obtain ⟨ps, h1, h2, h3⟩ := h
 obtain ⟨qs, rs, k1, rfl⟩ := laidVars_take h1
 exact ⟨qs, k1, (List.nodup_append.1 h2).1, fun b off hm => h3 b off (List.mem_append_left _ hm)⟩
set_option maxRecDepth 100000
theorem list6i {α : Type} {l : List α} (h : l.length = 6) : ∃ a b c d e f, l = [a, b, c, d, e, f] := by
 match l, h with
 | [a, b, c, d, e, f], _ => exact ⟨a, b, c, d, e, f, rfl⟩
section
variable {H : Type} {enc : TypeId × Value → H} {w : World} {base : Nat} {held : Bool} {fuel : Nat} {x : DataW H × List MemPlace}
theorem open_lreqF {v : Value} {d : DataW H} {ps : List MemPlace} {r : Reach} {b0 : Nat} (hv : Value.okWide Tryz.prog w r b0 28 v) (h : DataW.Trod enc Tryz.prog w base (fun _ => true) held 28 v d ps) :
  ∃ cl us lv nw A n c xs A' n' c' ys, v = .agg ⟨[.string cl, .string us, .int .i64 lv, .int .i64 nw, .slice A n c, .slice A' n' c']⟩ ∧ cl.size ≤ 9223372036854775807 ∧ us.size ≤ 9223372036854775807 ∧ Strs w A n c xs ∧ Strs w A' n' c' ys ∧ fits lv ∧ fits nw := by
 obtain ⟨cs, rfl, hl⟩ := okWide_struct Tryz.underlying28 hv
 obtain ⟨fuel, hf⟩ := h
 obtain ⟨xs, m, _, _, _, hlen, hfs⟩ := DataW.trod_struct Tryz.underlying28 hf
 rw [show Tryz.prog.cellsOf 28 = 6 by kernel_rfl] at hl
 obtain ⟨l⟩ := cs
 obtain ⟨c0, c1, c2, c3, c4, c5, rfl⟩ := list6i (by simpa using hl)
 obtain ⟨x0, h0⟩ := fldAtM hlen hfs 0 _ rfl
 obtain ⟨x1, h1⟩ := fldAtM hlen hfs 1 _ rfl
 obtain ⟨x2, h2⟩ := fldAtM hlen hfs 2 _ rfl
 obtain ⟨x3, h3⟩ := fldAtM hlen hfs 3 _ rfl
 obtain ⟨x4, h4⟩ := fldAtM hlen hfs 4 _ rfl
 obtain ⟨x5, h5⟩ := fldAtM hlen hfs 5 _ rfl
 obtain ⟨s0, g0, _, k0⟩ := DataW.trod_string uStr h0
 obtain ⟨s1, g1, _, k1⟩ := DataW.trod_string uStr h1
 obtain ⟨z2, g2, _, w2⟩ := DataW.trod_int uI64 h2
 obtain ⟨z3, g3, _, w3⟩ := DataW.trod_int uI64 h3
 obtain ⟨A4, n4, d4, q4, g4, k4⟩ := strs_of_cellsM h4
 obtain ⟨A5, n5, d5, q5, g5, k5⟩ := strs_of_cellsM h5
 cases g0; cases g1; cases g2; cases g3; cases g4; cases g5
 unfold maxLen at k0 k1
 exact ⟨s0, s1, z2, z3, A4, n4, d4, q4, A5, n5, d5, q5, rfl, by omega, by omega, k4, k5, by simp only [Lit.wf, Bool.and_eq_true, decide_eq_true_eq] at w2; exact w2, by simp only [Lit.wf, Bool.and_eq_true, decide_eq_true_eq] at w3; exact w3⟩
end
set_option maxRecDepth 100000
section
variable {H : Type} {enc : TypeId × Value → H} {w : World} {base : Nat} {held : Bool} {fuel : Nat} {x : DataW H × List MemPlace}
theorem el_valueF (n : Nat) (cs : List Value) (x : DataW H × List MemPlace) (h : DataW.trod enc Tryz.prog w base (fun _ => true) held n 141 cs = some x) : ∃ v : VV, cs = vC v ∧ (vC v).length = 4 ∧ ((Strs w v.A v.m v.c v.p.xs ∧ v.p.tx.size ≤ 9223372036854775807) ∧ fits v.p.n) := by
 obtain ⟨xs, m, _, _, hl, hlen, hfs⟩ := DataW.trod_struct Tryz.underlying141 h
 rw [show Tryz.prog.cellsOf 141 = 4 by kernel_rfl] at hl
 obtain ⟨c0, c1, c2, c3, rfl⟩ := list4m hl
 obtain ⟨x0, h0⟩ := fldAtM hlen hfs 0 _ rfl
 obtain ⟨x1, h1⟩ := fldAtM hlen hfs 1 _ rfl
 obtain ⟨x2, h2⟩ := fldAtM hlen hfs 2 _ rfl
 obtain ⟨x3, h3⟩ := fldAtM hlen hfs 3 _ rfl
 obtain ⟨z0, g0, _⟩ := DataW.trod_int uInt h0
 obtain ⟨z1, g1, _, w1⟩ := DataW.trod_int uI64 h1
 obtain ⟨s2, g2, _, k2⟩ := DataW.trod_string uStr h2
 obtain ⟨A3, n3, d3, q3, g3, k3⟩ := strs_of_cellsM h3
 cases g0; cases g1; cases g2; cases g3
 unfold maxLen at k2
 exact ⟨⟨⟨z0, z1, s2, q3⟩, A3, n3, d3⟩, rfl, rfl, ⟨k3, by simp only; omega⟩, by simp only [Lit.wf, Bool.and_eq_true, decide_eq_true_eq] at w1; exact w1⟩
theorem open_lcodeF {v : Value} {d : DataW H} {ps : List MemPlace} {r : Reach} {b0 : Nat} (hv : Value.okWide Tryz.prog w r b0 25 v) (h : DataW.Trod enc Tryz.prog w base (fun _ => true) held 25 v d ps) :
  ∃ A n c sl A2 n2 c2 pv is, v = codeV A n c sl A2 n2 c2 ∧ CodeR w A n A2 n2 pv is ∧ n ≤ 9223372036854775807 ∧ n2 ≤ 9223372036854775807 ∧ ∀ p ∈ pv, fits p.n := by
 obtain ⟨cs, rfl, hl⟩ := okWide_struct Tryz.underlying25 hv
 obtain ⟨fuel, hf⟩ := h
 obtain ⟨xs, m, _, _, _, hlen, hfs⟩ := DataW.trod_struct Tryz.underlying25 hf
 rw [show Tryz.prog.cellsOf 25 = 3 by kernel_rfl] at hl
 obtain ⟨l⟩ := cs
 obtain ⟨c0, c1, c2, rfl⟩ := list3m (l := l) (by simpa using hl)
 obtain ⟨x0, h0⟩ := fldAtM hlen hfs 0 _ rfl
 obtain ⟨x1, h1⟩ := fldAtM hlen hfs 1 _ rfl
 obtain ⟨x2, h2⟩ := fldAtM hlen hfs 2 _ rfl
 obtain ⟨A, n, c, vs, g0, e1, e2, e3, e4, e5⟩ := open_rowsM (f := vC) Tryz.underlying22 (show Tryz.prog.cellsOf 141 = 4 by kernel_rfl) (by omega) el_valueF h0
 obtain ⟨z1, g1, _⟩ := DataW.trod_int uInt h1
 obtain ⟨A2, n2, c2, is, g2, i1, i2, i3, i4, i5⟩ := open_rowsM (f := iC) Tryz.underlying23 (show Tryz.prog.cellsOf 161 = 2 by kernel_rfl) (by omega) el_ins h2
 cases g0; cases g1; cases g2
 exact ⟨A, n, c, z1, A2, n2, c2, vs.map (·.p), is, rfl, ⟨⟨vs, rfl, e1, e4, fun v hv => (e5 v hv).1⟩, ⟨i1, i4⟩⟩, e3, i3, fun p hp => by obtain ⟨v, hv, rfl⟩ := List.mem_map.1 hp; exact (e5 v hv).2⟩
end
end Go.Proofs.YtkedmcebngachaaGreatDoor
