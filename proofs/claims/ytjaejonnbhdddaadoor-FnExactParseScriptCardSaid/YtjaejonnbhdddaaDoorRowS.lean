/- What a row's condition and its worlds' shape give the walks over the library. -/
import Derived.Test.YtjaejonnbhdddaaDoorRowE
import Derived.Test.YtjaejonnbhdddaaDoorL26
import Derived.HandedShaped
import Derived.Lib.LaidTab
namespace Go.Proofs.YtjaejonnbhdddaaDoor
open Go.ChangeShapes Go.WideShapes Go.ChangeAt Go.RowKit Go.Eng
set_option maxRecDepth 100000
/-- The wrap with a condition and the worlds' shape. -/
theorem returns_and_shaped {H : Type} {enc : TypeId × Value → H} {a : Assume} {C : Checked} {os : Os} {f : FuncId} {fn : Func} {s : ChangeSpec} {conds : List PathCond} {apart fresh handsOn again : Bool} {X : World → Array Value → Prop}
    (hX : ∀ (w w' : World) (args : Array Value), w.heap = w'.heap → X w args → X w' args)
    (own : ownKnob C.prog.godebug = none) (started : os.Started) (noInit : C.prog.inits.idxOf? f = none) (hfn : C.prog.funcs[f]? = some fn)
    (witness : ∃ (w : World) (tape : Tape) (i : Input), w.os = os ∧ (w.forCall tape i).Shaped C.prog ∧ i.vars = [] ∧ Input.okWide C.prog (w.forCall tape i) .any w.heap.size f i ∧
      ((s.pre enc C.prog fn conds apart (w.forCall tape i).memory i.args ∧ X (w.forCall tape i).memory i.args) ∧ sizedMet enc C.prog fn (OpenSpec.ofChange s) apart (w.forCall tape i).memory i.args) ∧ a.holds C.prog (lone (Frame.enter C.prog f i.args .normal) [] (w.forCall tape i)))
    (contract : ∀ (W : World) (base : Nat) (args : Array Value) (ds gs : List (DataW H)) (before : List MemPlace),
      (∀ (j : Nat) t v, fn.params[j]? = some t → args[j]? = some v → Value.okWide C.prog W .any base t v) →
      DataW.Whole enc C.prog fn.params.toList s.vars apart W args.toList ds gs before → X W args → W.ShapedOpen C.prog →
      Calls C.prog f args W fun e W' => ∃ v, e = .returned v ∧ s.post enc C.prog fn apart fresh handsOn again W args v W') :
    ReturnsInHanded a C os f .any (fun w args => (s.pre enc C.prog fn conds apart w args ∧ X w args) ∧ sizedMet enc C.prog fn (OpenSpec.ofChange s) apart w args) (s.post enc C.prog fn apart fresh handsOn again) := by
  refine returnsInHanded_of_calls own started noInit witness ?_
  intro w tape i _ hsh _ hok hpre hholds
  obtain ⟨_, _, _, fn', hfn', _, _, _, _, hval⟩ := hok
  have e : fn' = fn := Option.some.inj (hfn'.symm.trans hfn)
  subst e
  obtain ⟨⟨⟨ds, gs, before, hw, hc⟩, hx⟩, hz⟩ := hpre
  have hw' := DataW.Whole.of_heap (w' := w.forCall tape i) (by rfl) hw
  refine (contract (w.forCall tape i) w.heap.size i.args ds gs before hval hw' (hX _ _ _ (by rfl) hx) hsh).mono fun e W' ⟨v, he, hp⟩ => ?_
  subst he
  exact ChangeSpec.post_blind hp
theorem gPowS : Tryd.prog.globalNamed "internal/strconv.uint64pow10" = some 6 := by kernel_rfl
theorem gER : Tryd.prog.globalNamed "strconv.ErrRange" = some 5 := by kernel_rfl
theorem gES : Tryd.prog.globalNamed "strconv.ErrSyntax" = some 4 := by kernel_rfl
theorem yER : (Tryd.prog.globals[5]?).map (·.type) = some 46 := by kernel_rfl
theorem yES : (Tryd.prog.globals[4]?).map (·.type) = some 46 := by kernel_rfl
theorem libv_of_laid {W : World} {n0 n1 n3 n6 : String} {d0 d1 d3 d6 : DataW Unit} {tR tS : List UInt8} (hsh : W.ShapedOpen Tryd.prog)
    (h : laidMet Tryd.prog [(n0, d0), (n1, d1), ("internal/strconv.uint64pow10", Lib.tabData .u64 Lib.pow10Tab), (n3, d3), ("strconv.ErrRange", .iface "*errors.errorString" (.ptr (.agg [.lit (.string tR)]))), ("strconv.ErrSyntax", .iface "*errors.errorString" (.ptr (.agg [.lit (.string tS)]))), (n6, d6)] W) : LibV W := by
  obtain ⟨ps, ⟨g0, t0, cs0, f0, p0, q0, hg0, ht0, hv0, hd0, ⟨g1, t1, cs1, f1, p1, q1, hg1, ht1, hv1, hd1, ⟨g2, t2, cs2, f2, p2, q2, hg2, ht2, hv2, hd2, ⟨g3, t3, cs3, f3, p3, q3, hg3, ht3, hv3, hd3, ⟨g4, t4, cs4, f4, p4, q4, hg4, ht4, hv4, hd4, ⟨g5, t5, cs5, f5, p5, q5, hg5, ht5, hv5, hd5, ⟨g6, t6, cs6, f6, p6, q6, hg6, ht6, hv6, hd6, _, e6⟩, e5⟩, e4⟩, e3⟩, e2⟩, e1⟩, e0⟩, hnd, hrows⟩ := h
  obtain rfl := Option.some.inj (gPowS.symm.trans hg2)
  obtain rfl := Option.some.inj (gER.symm.trans hg4)
  obtain rfl := Option.some.inj (gES.symm.trans hg5)
  obtain rfl := Option.some.inj (yER.symm.trans ht4)
  obtain rfl := Option.some.inj (yES.symm.trans ht5)
  have hpow : Pow W := by
    obtain ⟨t, e, n, hty, ht, he, hce, hct⟩ : ∃ t e n, (Tryd.prog.globals[6]?).map (·.type) = some t ∧ Tryd.prog.underlying t = some (.array n e) ∧ Tryd.prog.underlying e = some (.int .u64) ∧ Tryd.prog.cellsOf e = 1 ∧ Tryd.prog.cellsOf t = n :=
      ⟨137, 101, 20, by kernel_rfl, by kernel_rfl, by kernel_rfl, by kernel_rfl, by kernel_rfl⟩
    obtain rfl := Option.some.inj (hty.symm.trans ht2)
    unfold Pow Lib.TabIs
    rw [hv2, ← Lib.cells_of_tab ht he hce hct hd2]
  subst e6; subst e5; subst e4; subst e3; subst e2; subst e1; subst e0
  obtain ⟨l4⟩ := cs4
  obtain ⟨l5⟩ := cs5
  have ok4 : ∀ u v, l4 = [.iface u v] → Value.okWide Tryd.prog W .any 0 u v := fun u v e => by
    subst e
    exact (hrows 5 0 (by simp [MemPlace.row])).2 u v (by simpa using World.var?_cell hg4 hv4 0)
  have ok5 : ∀ u v, l5 = [.iface u v] → Value.okWide Tryd.prog W .any 0 u v := fun u v e => by
    subst e
    exact (hrows 4 0 (by simp [MemPlace.row])).2 u v (by simpa using World.var?_cell hg5 hv5 0)
  obtain ⟨a4, s4, rfl, _⟩ := errorString_of_trod Tryd.underlying46 rowE Tryd.underlying154 Tryd.underlying156 rfl rfl uStr cellsE cellsS hd4 ok4
  obtain ⟨a5, s5, rfl, _⟩ := errorString_of_trod Tryd.underlying46 rowE Tryd.underlying154 Tryd.underlying156 rfl rfl uStr cellsE cellsS hd5 ok5
  exact ⟨hpow, Tryd.laysM145.s1_3 W hsh, ⟨_, _, by simpa using World.var?_cell hg5 hv5 0⟩, ⟨_, _, by simpa using World.var?_cell hg4 hv4 0⟩⟩
end Go.Proofs.YtjaejonnbhdddaaDoor
